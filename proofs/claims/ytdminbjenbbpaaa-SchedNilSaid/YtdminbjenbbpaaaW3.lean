/- The walk of SchedRuns. -/
import Derived.Test.YtdminbjenbbpaaaS9
import Derived.Test.YtdminbjenbbpaaaP2
import Derived.Test.YtdminbjenbbpaaaS11
namespace Go.Proofs.Ytdminbjenbbpaaa
open Go.RowKit

theorem fewL_len (zs : List Int) : (fewL zs).length ≤ 6 := by simp [fewL]; omega
theorem fewL_bd (zs : List Int) : ∀ z ∈ fewL zs, -1 ≤ z ∧ z ≤ 20 := by
  intro z hz
  simp only [fewL, List.mem_map] at hz
  obtain ⟨y, ⟨x, _, rfl⟩, rfl⟩ := hz
  have h1 := Int.tmod_lt_of_pos x (show (0 : Int) < 21 by decide)
  unfold few2 few1
  split <;> omega

set_option maxHeartbeats 2000000 in
theorem runs_long (v0 : Value) (a1 : Option Addr) (len1 cap1 : Nat) (w : World) (h : 300 < len1) :
    Calls Try.prog 3 #[v0, .slice a1 len1 cap1] w fun e w' => e = .returned (.bool true) ∧ Below w.heap.size w w' := by
  have hh : (300 : Int) < len1 := by omega
  go_enter Try.func3, Try.ntmps3
  go_wp2_with fail
  refine (awake_any w).mono ?_
  rintro e w1 ⟨rfl, hB1⟩
  go_wp2_with fail
  refine (awake_any w1).mono ?_
  rintro e w2 ⟨rfl, hB2⟩
  go_wp2_with fail
  go_ret
  exact ⟨rfl, hB1.trans (hB2.mono hB1.size)⟩

set_option maxHeartbeats 4000000 in
theorem runs_short (a0 : Option Addr) (cap0 : Nat) (zs : List Int) (a1 : Option Addr) (cap1 : Nat) (ps : List Int) (w : World) (hz : Rd w (.slice a0 zs.length cap0) zs.length (zs.map (.int .i8))) (hp : Rd w (.slice a1 ps.length cap1) ps.length (ps.map (.int .i64)))
    (hzb : ∀ z ∈ zs, -128 ≤ z ∧ z ≤ 127) (hpb : ∀ p ∈ ps, -9223372036854775808 ≤ p ∧ p ≤ 9223372036854775807) (hzl : zs.length ≤ 9223372036854775807) (h : ps.length ≤ 300) :
    Calls Try.prog 3 #[.slice a0 zs.length cap0, .slice a1 ps.length cap1] w fun e w' => e = .returned (.bool true) ∧ Below w.heap.size w w' := by
  have hh : ¬ (300 : Int) < ps.length := by omega
  go_enter Try.func3, Try.ntmps3
  go_wp2_with fail
  refine (awake_any w).mono ?_
  rintro e w1 ⟨rfl, hB1⟩
  have hz1 := hz.kept hB1
  go_wp2_with fail
  refine (few_any a0 cap0 zs w1 hz1 hzb hzl).mono ?_
  rintro e w2 ⟨fa, fc, rfl, hf2, hB2, hfo⟩
  have hfl := fewL_len zs
  have hfb := fewL_bd zs
  have R2 := Rd.of_own hf2
  have hf2lt : ∀ k, Value.ownBlock (.slice fa (fewL zs).length fc) = some k → k < w2.heap.size := fun k hk => ownsRow_lt hf2 hk
  have hBb := hB1.trans (hB2.mono hB1.size)
  generalize fewL zs = n at *
  clear hz1 hf2 hfo hz hB2
  go_wp2_with fail
  refine (machines_ex w.heap.size _ n w2 R2 hf2lt (by omega) hBb.size).mono ?_
  rintro e w3 ⟨ma, mc, ms, rfl, hml, hmr, hM, hnn, hB3, hmb, hmo⟩
  have hBc := hBb.trans (hB3.mono hBb.size)
  have hp3 := hp.kept hBc
  have R3 := R2.kept hB3
  replace hml := Lib.hid hml
  go_wp2_with fail
  refine (run_any w.heap.size w3 ma mc ms (begs n) a1 cap1 ps hM hmr (fun k hk => ⟨(hmo k hk).1, (hmo k hk).2.1⟩) (begs_bd n (fun z hz => by have := hfb z hz; omega)) hBc.size (fun b hb => (hmb b hb).1) (by have := hml.out; omega) hp3
    (fun hpos k hk hin => by have h1 := hp.lt (by intro e; simp at e; subst e; simp at hpos) hk; have h2 := (hmb k hin).1; omega) (by omega) hpb).mono ?_
  rintro e w4 ⟨sb, sc, eb, rfl, hS, hE, hEl, _, hB4, hO4⟩
  obtain ⟨ag1, ag2, ag3, _, _⟩ := agree_run n ms hml.out hnn ps
  rw [ag1] at hS
  rw [ag2] at hE
  rw [ag1]
  rw [ag2] at hEl
  have hO4' := hB4
  have hBd := hBc.trans (hB4)
  have hp4 := hp.kept hBd
  have R4 := R3.only hO4 (fun k hk hin => by have := hf2lt k hk; have := hmb k hin; omega)
  clear hM hmr R3 R2 hp3 hO4 hB4 hO4' hmo ag1 ag2 ag3
  obtain ⟨hrl1, hrl2⟩ := rrunP_bd n ps
  have hrr := fun wx h1 h2 => rrun_any wx fa fc n a1 cap1 ps h1 h2 (by omega) (by omega) hpb
  generalize rrunP n ps = l at *
  replace hrr := Lib.hid hrr
  have hW5 : Below w4.heap.size w4 (w4.alloc (.cells #[.slice sb l.steps.length sc, .slice eb ms.length ms.length] 27)) := (Below.refl _ _).alloc (Nat.le_refl _) _
  have A5 := Has.new w4 [.slice sb l.steps.length sc, .slice eb ms.length ms.length] 27
  have hS5 := hS.kept hW5
  have hE5 := hE.kept hW5
  have hp5 := hp4.kept hW5
  have R5 := R4.kept hW5
  have hBe := hBd.trans (hW5.mono hBd.size)
  replace hEl := Lib.hid hEl
  replace hrl1 := Lib.hid hrl1
  clear hS hE hp4 R4 hW5 hBc hBd hBb hB1 hB3
  go_wp2_with fail
  refine (hrr.out _ R5 hp5).mono ?_
  rintro e w6 ⟨sd, sdc, ed, edc, rfl, hS6, hE6, hB6⟩
  have hsz6 := hB6.size
  simp only [World.size_alloc] at hsz6
  have A6 := A5.only (Only.of_below hB6) (by simp)
  have hS5' := hS5.kept hB6
  have hE5' := hE5.kept hB6
  have hBf := hBe.trans (hB6.mono hBe.size)
  have hW7 : Below w6.heap.size w6 (w6.alloc (.cells #[.slice sd l.steps.length sdc, .slice ed n.length edc] 31)) := (Below.refl _ _).alloc (Nat.le_refl _) _
  have A7 := Has.new w6 [.slice sd l.steps.length sdc, .slice ed n.length edc] 31
  have A8 := A6.alloc (.cells #[.slice sd l.steps.length sdc, .slice ed n.length edc] 31)
  have B1 := hS5'.kept hW7
  have B2 := hE5'.kept hW7
  have B3 := hS6.kept hW7
  have B4 := hE6.kept hW7
  have hBg := hBf.trans (hW7.mono hBf.size)
  have x0 := A8.cell (o := 0) rfl
  have x1 := A8.cell (o := 1) rfl
  have y0 := A7.cell (o := 0) rfl
  have y1 := A7.cell (o := 1) rfl
  have S1 := fun m => same_true (.slice sb l.steps.length sc) (.slice sd l.steps.length sdc) l.steps _ (B1.drewN m) (B3.drewN m) (by omega)
  have S2 := fun m => same_true (.slice eb ms.length ms.length) (.slice ed n.length edc) l.ended _ (by have := B2.drewN m; rw [← hEl.out] at this ⊢; exact this) (by have := B4.drewN m; rw [← hrl1.out] at this ⊢; exact this) (by have := hrl1.out; omega)
  replace S1 := Lib.hid S1
  replace S2 := Lib.hid S2
  clear A5 A6 A7 A8 hS5 hE5 hS5' hE5' hS6 hE6 B1 B2 B3 B4 hp5 R5 hrr hB6 hBe hBf hW7
  go_wp2_with fail
  refine (S1.out 0).mono ?_
  rintro e w8 ⟨rfl, m1, rfl⟩
  go_wp2_with fail
  refine (S2.out m1).mono ?_
  rintro e w9 ⟨rfl, m2, rfl⟩
  go_wp2_with fail
  go_ret
  exact ⟨rfl, below_drewN hBg _⟩

theorem runs_walk (a0 : Option Addr) (len0 cap0 : Nat) (z0 : List Int) (a1 : Option Addr) (len1 cap1 : Nat) (z1 : List Int) (w : World) (w0 : IsRow .i8 w a0 len0 cap0 z0) (w1 : IsRow .i64 w a1 len1 cap1 z1) :
    Calls Try.prog 3 #[.slice a0 len0 cap0, .slice a1 len1 cap1] w fun e w' => e = .returned (.bool true) ∧ Below w.heap.size w w' := by
  by_cases h : 300 < len1
  · exact runs_long _ a1 len1 cap1 w h
  · obtain ⟨ys0, rfl, _, r0, b0, l0⟩ := w0.rd
    obtain ⟨ys1, rfl, _, r1, b1, l1⟩ := w1.rd
    exact runs_short a0 cap0 ys0 a1 cap1 ys1 w r0 r1 (fun z hz => bounds_i8 (b0 z hz)) (fun z hz => bounds_i64 (b1 z hz)) l0 (by omega)
end Go.Proofs.Ytdminbjenbbpaaa
