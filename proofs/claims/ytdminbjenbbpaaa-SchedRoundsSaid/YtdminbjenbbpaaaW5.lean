/- The walk of SchedRounds. -/
import Derived.Test.YtdminbjenbbpaaaW3
import Derived.Test.YtdminbjenbbpaaaS12
import Derived.Test.YtdminbjenbbpaaaR4
namespace Go.Proofs.Ytdminbjenbbpaaa
open Go.RowKit

set_option maxHeartbeats 4000000 in
theorem rounds_core (a0 : Option Addr) (cap0 : Nat) (zs : List Int) (bound : Int) (w : World) (hz : Rd w (.slice a0 zs.length cap0) zs.length (zs.map (.int .i8)))
    (hzb : ∀ z ∈ zs, -128 ≤ z ∧ z ≤ 127) (hbd : -9223372036854775808 ≤ bound ∧ bound ≤ 9223372036854775807) (hzl : zs.length ≤ 9223372036854775807) :
    Calls Try.prog 5 #[.slice a0 zs.length cap0, .int .i64 bound] w fun e w' => e = .returned (.bool true) ∧ Below w.heap.size w w' := by
  go_enter Try.func5, Try.ntmps5
  go_wp2_with fail
  refine (awake_any w).mono ?_
  rintro e w1 ⟨rfl, hB1⟩
  have hz1 := hz.kept hB1
  go_wp2_with fail
  refine (few_any a0 cap0 zs w1 hz1 hzb hzl).mono ?_
  rintro e w2 ⟨fa, fc, rfl, hf2, hB2, hfo⟩
  have hfl := fewL_len zs
  have hfb := fewL_bd zs
  have R2 := Rd.of_own hf2
  have hf2lt : ∀ k, Value.ownBlock (.slice fa (fewL zs).length fc) = some k → k < w2.heap.size := fun k hk => ownsRow_lt hf2 hk
  have hBb := hB1.trans (hB2.mono hB1.size)
  generalize fewL zs = n at *
  clear hz1 hf2 hfo hz hB2
  go_wp2_with fail
  refine (machines_ex w.heap.size _ n w2 R2 hf2lt (by omega) hBb.size).mono ?_
  rintro e w3 ⟨ma, mc, ms, rfl, hml, hmr, hM, hnn, hB3, hmb, hmo⟩
  have hBc := hBb.trans (hB3.mono hBb.size)
  have R3 := R2.kept hB3
  have hI0 := inv_start ms n hml (fun z hz => (hfb z hz).2)
  have hmlt : ms.length ≤ 6 := by omega
  replace hml := Lib.hid hml
  go_wp2_with fail
  refine (round_any w.heap.size w3 ma mc ms (begs n) bound hM hmr (fun k hk => ⟨(hmo k hk).1, (hmo k hk).2.1⟩) (begs_bd n (fun z hz => by have := hfb z hz; omega)) hBc.size (fun b hb => (hmb b hb).1) (by omega) hbd (20 * n.length) (by omega) hI0).mono ?_
  rintro e w4 ⟨sb, sc, eb, rfl, hS, hE, hEl, hB4, hO4⟩
  have hag := agree_rr n ms hml.out hnn bound (20 * n.length) (bound.toNat + 1) _ _ (agree_start n ms hml.out) hI0
  have hiv := inv_rr bound (bound.toNat + 1) _ hI0
  have hrr := fun wx h1 => rround_any wx fa fc n bound h1 (by omega) (fun z hz => (hfb z hz).2) hbd
  generalize rrP ms bound (bound.toNat + 1) (startS ms (begs n)) = s at *
  generalize rrR n bound (bound.toNat + 1) ⟨[], List.replicate n.length (-1)⟩ = l at *
  have hok : decide (s.left = 0) = allE l.ended := by
    have h1 := alive_all ms s.ended (by rw [hiv.le]) hnn
    have h2 := alive_nonneg ms s.ended
    rw [← hiv.al] at h1 h2
    rw [hag.en] at h1
    cases hx : allE l.ended with
    | true =>
      simp only [decide_eq_true_eq]
      rw [hx] at h1
      have : ¬ 0 < s.left := fun h => by have := h1.1 h; cases this
      omega
    | false => simp only [decide_eq_false_iff_not]; have := h1.2 hx; omega
  have hsl := hiv.tot
  have ag1 := hag.st
  have ag2 := hag.en
  have hrl1 := hag.le
  rw [ag2] at hrl1
  rw [ag1] at hS hsl
  rw [ag2] at hE hEl
  rw [ag1, hok]
  have hBd := hBc.trans (hB4)
  have R4 := R3.only hO4 (fun k hk hin => by have := hf2lt k hk; have := hmb k hin; omega)
  clear hM hmr R3 R2 hO4 hB4 hmo ag1 ag2 hag hiv hok
  replace hrr := Lib.hid hrr
  have hW5 : Below w4.heap.size w4 (w4.alloc (.cells #[.slice sb l.steps.length sc, .slice eb ms.length ms.length] 27)) := (Below.refl _ _).alloc (Nat.le_refl _) _
  have A5 := Has.new w4 [.slice sb l.steps.length sc, .slice eb ms.length ms.length] 27
  have hS5 := hS.kept hW5
  have hE5 := hE.kept hW5
  have R5 := R4.kept hW5
  have hBe := hBd.trans (hW5.mono hBd.size)
  have hnl : n.length ≤ 6 := hfl
  replace hEl := Lib.hid hEl
  replace hrl1 := Lib.hid hrl1
  clear hS hE R4 hW5 hBc hBd hBb hB1 hB3 hI0
  go_wp2_with fail
  refine (hrr.out _ R5).mono ?_
  rintro e w6 ⟨sd, sdc, ed, edc, rfl, hS6, hE6, hB6⟩
  have hsz6 := hB6.size
  simp only [World.size_alloc] at hsz6
  have A6 := A5.only (Only.of_below hB6) (by simp)
  have hS5' := hS5.kept hB6
  have hE5' := hE5.kept hB6
  have hBf := hBe.trans (hB6.mono hBe.size)
  have hW7 : Below w6.heap.size w6 ((w6.alloc (.cells #[.slice sd l.steps.length sdc, .slice ed n.length edc] 31)).alloc (.cells #[.slice sd l.steps.length sdc, .slice ed n.length edc] 31)) := ((Below.refl _ _).alloc (Nat.le_refl _) _).alloc (by simp) _
  have A7 := (Has.new w6 [.slice sd l.steps.length sdc, .slice ed n.length edc] 31).alloc (.cells #[.slice sd l.steps.length sdc, .slice ed n.length edc] 31)
  have A8 := (A6.alloc (.cells #[.slice sd l.steps.length sdc, .slice ed n.length edc] 31)).alloc (.cells #[.slice sd l.steps.length sdc, .slice ed n.length edc] 31)
  have hE61 := hE6.kept (w' := w6.alloc (.cells #[.slice sd l.steps.length sdc, .slice ed n.length edc] 31)) ((Below.refl _ _).alloc (Nat.le_refl _) _)
  have y0 := (Has.new w6 [.slice sd l.steps.length sdc, .slice ed n.length edc] 31).cell (o := 0) rfl
  have y1 := (Has.new w6 [.slice sd l.steps.length sdc, .slice ed n.length edc] 31).cell (o := 1) rfl
  have B1 := hS5'.kept hW7
  have B2 := hE5'.kept hW7
  have B3 := hS6.kept hW7
  have B4 := hE6.kept hW7
  have hBg := hBf.trans (hW7.mono hBf.size)
  have x0 := A8.cell (o := 0) rfl
  have x1 := A8.cell (o := 1) rfl
  have z0 := A7.cell (o := 0) rfl
  have z1 := A7.cell (o := 1) rfl
  have SA := all_any (.slice sd l.steps.length sdc) ed edc l.ended _ (by rw [← hrl1.out] at hE61; exact hE61) (by have := hrl1.out; omega)
  rw [hrl1.out] at SA
  replace SA := Lib.hid SA
  have S1 := fun m => same_true (.slice sb l.steps.length sc) (.slice sd l.steps.length sdc) l.steps _ (B1.drewN m) (B3.drewN m) (by omega)
  have S2 := fun m => same_true (.slice eb ms.length ms.length) (.slice ed n.length edc) l.ended _ (by have := B2.drewN m; rw [← hEl.out] at this ⊢; exact this) (by have := B4.drewN m; rw [← hrl1.out] at this ⊢; exact this) (by have := hrl1.out; omega)
  replace S1 := Lib.hid S1
  replace S2 := Lib.hid S2
  clear A5 A6 A7 A8 hS5 hE5 hS5' hE5' hS6 hE6 hE61 B1 B2 B3 B4 R5 hrr hB6 hBe hBf hW7
  go_wp2_with fail
  refine SA.out.mono ?_
  rintro e w8 ⟨rfl, rfl⟩
  cases hx : allE l.ended
  all_goals
    clear hx
    go_wp2_with fail
    refine (S1.out 0).mono ?_
    rintro e w9 ⟨rfl, m1, rfl⟩
    go_wp2_with fail
    refine (S2.out m1).mono ?_
    rintro e w9 ⟨rfl, m2, rfl⟩
    go_wp2_with fail
    go_ret
    exact ⟨rfl, below_drewN hBg _⟩

theorem rounds_walk (a0 : Option Addr) (len0 cap0 : Nat) (z0 : List Int) (a1 : Int) (w : World) (w0 : IsRow .i8 w a0 len0 cap0 z0) (w1 : (Lit.int .i64 a1).wf = true) :
    Calls Try.prog 5 #[.slice a0 len0 cap0, .int .i64 a1] w fun e w' => e = .returned (.bool true) ∧ Below w.heap.size w w' := by
  obtain ⟨ys0, rfl, _, r0, b0, l0⟩ := w0.rd
  exact rounds_core a0 cap0 ys0 a1 w r0 (fun z hz => bounds_i8 (b0 z hz)) (bounds_i64 w1) l0
end Go.Proofs.Ytdminbjenbbpaaa
