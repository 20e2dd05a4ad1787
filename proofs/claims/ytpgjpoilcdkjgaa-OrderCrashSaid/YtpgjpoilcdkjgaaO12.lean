/- The walk of run.execute: compare and swap. -/
import Derived.Test.YtpgjpoilcdkjgaaO11
namespace Go.Proofs.Ytpgjpoilcdkjgaa
open Go.RowKit Go.Maps

theorem cur_lookup {w : World} {b T off : Nat} {cur : Nat → Nat} (h : CurV w b T cur) (ho : off < 18446744073709551616) (n : Nat) :
    (Instr.lookup 92 (.map (some b)) (.int .u64 off) false).run Try.prog (w.drewN n) = .ok (.int .u64 (cur off : Int)) (w.drewN n) := by
  obtain ⟨D, hD1, hD2, hD3⟩ := h
  have hD1' : (w.drewN n).ownsMap Try.prog 42 (plainElem Try.prog 42) b T D := hD1
  obtain ⟨c, hrun, hat, _⟩ := hD1'.lookup_int key42 Try.underlying92 Try.underlying42 (zero42 _) (keyOf_int_mk Try.underlying42 (wf_u64 ho))
  have := hD3 off ho
  rw [hat] at this
  simp only [DataW.lit.injEq, Lit.int.injEq, true_and] at this
  subst this
  exact hrun

set_option maxHeartbeats 4000000 in
set_option maxRecDepth 100000 in
theorem exec2 (B cb mb T off val old : Nat) (vt vl vn vc : Value) (R : Rn) (w : World) (h : RunSt w B cb mb T R) (hT : T + 1 ≤ 20000) (hof : off < 18446744073709551616) (hv : val < 18446744073709551616) :
    Calls Try.prog 42 #[.pointer (some ⟨B + 4, 0, none⟩), .agg #[.int .u8 2, vt, .int .u64 off, .int .u64 val, .int .u64 old, vl, vn, vc]] w (ExPost w B cb mb T (if (off < 64 * R.G.n ∧ off % 8 = 0) ∧ R.cur off = old then storeP R off val else R)) := by
  have ok := h.ok
  have hn2 := ok.n2
  have hsz := h.size
  have hA := h.alloc (.cells #[.int .u8 2, vt, .int .u64 off, .int .u64 val, .int .u64 old, vl, vn, vc] 65)
  have r0 := hA.rb.cell (o := 0) rfl
  obtain ⟨wa, wc, ra, rc, hg, _⟩ := hA.ex
  have g0 := hg.cell (o := 0) rfl
  have hE := Has.new w [.int .u8 2, vt, .int .u64 off, .int .u64 val, .int .u64 old, vl, vn, vc] 65
  have e0 := hE.cell (o := 0) rfl
  have e2 := hE.cell (o := 2) rfl
  have e3 := hE.cell (o := 3) rfl
  have e4 := hE.cell (o := 4) rfl
  have r1 := hA.rb.cell (o := 1) rfl
  have hlk := cur_lookup hA.cv hof
  have hBa : Below B w (w.alloc (.cells #[.int .u8 2, vt, .int .u64 off, .int .u64 val, .int .u64 old, vl, vn, vc] 65)) := (Below.refl _ _).alloc (by omega) _
  clear hg
  by_cases hin : off < 64 * R.G.n
  · by_cases hal : off % 8 = 0
    · by_cases heq : R.cur off = old
      · rw [if_pos ⟨⟨hin, hal⟩, heq⟩]
        have hq : ((R.cur off : Int) == (old : Int)) = true := by rw [heq]; simp
        have hqI : (R.cur off : Int) = (old : Int) := by rw [heq]
        replace heq := Lib.hid heq
        have hd1 : decide ((off : Int) < (R.G.n : Int) * 64) = true := decide_eq_true (by omega)
        have hd2 : ((off : Int) % 8 == 0) = true := by rw [beq_iff_eq]; omega
        have hc := Lib.hid (fun n => store_any B cb mb T off val R _ (hA.drewN n) hT hin hal hv)
        generalize hpost : ExPost w B cb mb T (storeP R off val) = post
        have hend : ∀ w', RunSt w' B cb mb (T + 1) (storeP R off val) → Below B w w' → post (.returned (.tuple #[])) w' := by
          intro w' p1 p2; rw [← hpost]; exact ⟨rfl, p1, p2⟩
        replace hend := Lib.hid hend
        have hinI : (off : Int) < (R.G.n : Int) * 64 := by omega
        have halI : (off : Int) % 8 = 0 := by omega
        clear hpost
        replace hin := Lib.hid hin
        replace hal := Lib.hid hal
        go_enter Try.func42, Try.ntmps42
        go_wp2_with fail
        go_quiet (fail)
        go_wp2_with fail
        go_quiet (fail)
        go_wp2_with fail
        (try rw [World.drewN_drewN])
        refine (hc.out _).mono ?_
        rintro e w1 ⟨rfl, p1, p2⟩
        have hx := hend.out w1 p1 ((below_drewN hBa _).trans p2)
        go_wp2_with fail
        first | exact hx | exact bodyPost_end (results_none rfl _ _ _) rfl hx
      · rw [if_neg (fun h => heq h.2)]
        have hq : ((R.cur off : Int) == (old : Int)) = false := by rw [beq_eq_false_iff_ne]; omega
        have hqI : ¬ (R.cur off : Int) = (old : Int) := by omega
        replace heq := Lib.hid heq
        have hd1 : decide ((off : Int) < (R.G.n : Int) * 64) = true := decide_eq_true (by omega)
        have hd2 : ((off : Int) % 8 == 0) = true := by rw [beq_iff_eq]; omega
        generalize hpost : ExPost w B cb mb T R = post
        have hend : ∀ w', RunSt w' B cb mb (T + 1) R → Below B w w' → post (.returned (.tuple #[])) w' := by
          intro w' p1 p2; rw [← hpost]; exact ⟨rfl, p1, p2⟩
        have hx := Lib.hid (fun n => hend _ ((hA.up hT).drewN n) (below_drewN hBa n))
        have hinI : (off : Int) < (R.G.n : Int) * 64 := by omega
        have halI : (off : Int) % 8 = 0 := by omega
        clear hpost hend
        replace hin := Lib.hid hin
        replace hal := Lib.hid hal
        go_enter Try.func42, Try.ntmps42
        go_wp2_with fail
        go_quiet (fail)
        go_wp2_with fail
        go_quiet (fail)
        go_wp2_with fail
        first | exact hx.out _ | (rw [World.drewN_drewN]; exact hx.out _) | exact bodyPost_end (results_none rfl _ _ _) rfl (hx.out _) | (refine bodyPost_end (results_none rfl _ _ _) rfl ?_; rw [World.drewN_drewN]; exact hx.out _)
    · rw [if_neg (fun h => hal h.1.2)]
      have hd1 : decide ((off : Int) < (R.G.n : Int) * 64) = true := decide_eq_true (by omega)
      have hd2 : ((off : Int) % 8 == 0) = false := by rw [beq_eq_false_iff_ne]; omega
      generalize hpost : ExPost w B cb mb T R = post
      have hend : ∀ w', RunSt w' B cb mb (T + 1) R → Below B w w' → post (.returned (.tuple #[])) w' := by
        intro w' p1 p2; rw [← hpost]; exact ⟨rfl, p1, p2⟩
      have hx := Lib.hid (fun n => hend _ ((hA.up hT).drewN n) (below_drewN hBa n))
      have hinI : (off : Int) < (R.G.n : Int) * 64 := by omega
      have halI : ¬ (off : Int) % 8 = 0 := by omega
      clear hpost hend
      replace hin := Lib.hid hin
      replace hal := Lib.hid hal
      go_enter Try.func42, Try.ntmps42
      go_wp2_with fail
      go_quiet (fail)
      go_wp2_with fail
      try (go_quiet (fail))
      go_wp2_with fail
      first | exact hx.out _ | (rw [World.drewN_drewN]; exact hx.out _) | exact bodyPost_end (results_none rfl _ _ _) rfl (hx.out _) | (refine bodyPost_end (results_none rfl _ _ _) rfl ?_; rw [World.drewN_drewN]; exact hx.out _)
  · rw [if_neg (fun h => hin h.1.1)]
    have hd1 : decide ((off : Int) < (R.G.n : Int) * 64) = false := decide_eq_false (by omega)
    generalize hpost : ExPost w B cb mb T R = post
    have hend : ∀ w', RunSt w' B cb mb (T + 1) R → Below B w w' → post (.returned (.tuple #[])) w' := by
      intro w' p1 p2; rw [← hpost]; exact ⟨rfl, p1, p2⟩
    have hx := Lib.hid (fun n => hend _ ((hA.up hT).drewN n) (below_drewN hBa n))
    have hinI : ¬ (off : Int) < (R.G.n : Int) * 64 := by omega
    clear hpost hend
    replace hin := Lib.hid hin
    go_enter Try.func42, Try.ntmps42
    go_wp2_with fail
    go_quiet (fail)
    go_wp2_with fail
    go_quiet (fail)
    go_wp2_with fail
    first | exact hx.out _ | (rw [World.drewN_drewN]; exact hx.out _) | exact bodyPost_end (results_none rfl _ _ _) rfl (hx.out _) | (refine bodyPost_end (results_none rfl _ _ _) rfl ?_; rw [World.drewN_drewN]; exact hx.out _)
end Go.Proofs.Ytpgjpoilcdkjgaa
