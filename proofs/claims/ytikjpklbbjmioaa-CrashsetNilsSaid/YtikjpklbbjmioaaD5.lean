/- The program's device: the small readers, Arm, word. -/
import Derived.Test.YtikjpklbbjmioaaD4
namespace Go.Proofs.Ytikjpklbbjmioaa
open Go.RowKit Go.Maps

def Ret (w : World) (v : Value) (e : Ending) (w' : World) : Prop := e = .returned v ∧ w = w'
variable {w : World} {F : Own} {o T : Nat} {L : Lay} {R : Dv}
theorem lines_any (h : DevSt w F o L T R) : Calls Try.prog 41 #[.pointer (some ⟨L.g, 0, none⟩)] w fun e w' => e = .returned (.int .i64 (R.lines.length : Int)) ∧ w = w' := by
  have c := h.dev.cell (o := 2) rfl
  clear h
  go_enter Try.func41, Try.ntmps41
  go_wp2_with fail
  go_ret
  exact ⟨rfl, rfl⟩
theorem size_any (h : DevSt w F o L T R) : Calls Try.prog 64 #[.pointer (some ⟨L.g, 0, none⟩)] w fun e w' => e = .returned (.int .u64 ((R.lines.length : Int) * 64)) ∧ w = w' := by
  have hn := h.ok.n2
  have hl := Lib.hid (lines_any h)
  clear h
  go_enter Try.func64, Try.ntmps64
  go_wp2_with fail
  refine hl.out.mono ?_
  rintro e w' ⟨rfl, rfl⟩
  go_wp2_with fail
  go_ret
  exact ⟨rfl, rfl⟩
theorem tsize_any (h : DevSt w F o L T R) {t : Nat} (ht : t < 8) : Calls Try.prog 72 #[.pointer (some ⟨L.tb t, 0, none⟩)] w fun e w' => e = .returned (.int .u64 ((R.lines.length : Int) * 64)) ∧ w = w' := by
  have c := (h.thr t ht).1.cell (o := 0) rfl
  have hl := Lib.hid (size_any h)
  clear h
  go_enter Try.func72, Try.ntmps72
  go_wp2_with fail
  refine hl.out.mono ?_
  rintro e w' ⟨rfl, rfl⟩
  go_wp2_with fail
  go_ret
  exact ⟨rfl, rfl⟩
theorem off_any (h : DevSt w F o L T R) : Calls Try.prog 62 #[.pointer (some ⟨L.g, 0, none⟩)] w fun e w' => e = .returned (.bool R.off) ∧ w = w' := by
  have c := h.dev.cell (o := 11) rfl
  clear h
  go_enter Try.func62, Try.ntmps62
  go_wp2_with fail
  go_ret
  exact ⟨rfl, rfl⟩
theorem executed_any (h : DevSt w F o L T R) : Calls Try.prog 63 #[.pointer (some ⟨L.g, 0, none⟩)] w fun e w' => e = .returned (.int .u64 (R.exe : Int)) ∧ w = w' := by
  have c := h.dev.cell (o := 14) rfl
  clear h
  go_enter Try.func63, Try.ntmps63
  go_wp2_with fail
  go_ret
  exact ⟨rfl, rfl⟩
theorem thread_in (h : DevSt w F o L T R) {t : Nat} (ht : t < 8) : Calls Try.prog 15 #[.pointer (some ⟨L.g, 0, none⟩), .int .i64 (t : Int)] w fun e w' => e = .returned (.pointer (some ⟨L.tb t, 0, none⟩)) ∧ w = w' := by
  have c := h.dev.cell (devCells_thr L R t ht)
  have hI : (t : Int) < 8 := by omega
  have h0 : (0 : Int) ≤ (t : Int) := by omega
  clear h
  go_enter Try.func15, Try.ntmps15
  go_wp2_with fail
  go_ret
  exact ⟨rfl, rfl⟩
theorem thread_out (g : Nat) (t : Int) (ht : t < 0 ∨ 8 ≤ t) : Calls Try.prog 15 #[.pointer (some ⟨g, 0, none⟩), .int .i64 t] w fun e w' => e = .returned (.pointer none) ∧ w = w' := by
  rcases ht with ht | ht
  · go_enter Try.func15, Try.ntmps15
    go_wp2_with fail
    go_ret
    exact ⟨rfl, rfl⟩
  · have h0 : ¬ t < 0 := by omega
    have h1 : decide (t < 0) = false := decide_eq_false h0
    go_enter Try.func15, Try.ntmps15
    go_wp2_with fail
    go_ret
    exact ⟨rfl, rfl⟩
theorem err_any (h : DevSt w F o L T R) {t : Nat} (ht : t < 8) : Calls Try.prog 70 #[.pointer (some ⟨L.tb t, 0, none⟩)] w fun e w' => e = .returned (.int .i64 ((R.errs.getD t 0 : Nat) : Int)) ∧ w = w' := by
  have c := (h.thr t ht).1.cell (o := 0) rfl
  have c2 := (h.thr t ht).1.cell (o := 2) rfl
  clear h
  go_enter Try.func70, Try.ntmps70
  go_wp2_with fail
  go_ret
  exact ⟨rfl, rfl⟩
theorem id_any (h : DevSt w F o L T R) {t : Nat} (ht : t < 8) : Calls Try.prog 71 #[.pointer (some ⟨L.tb t, 0, none⟩)] w fun e w' => e = .returned (.int .i64 (t : Int)) ∧ w = w' := by
  have c := (h.thr t ht).1.cell (o := 1) rfl
  clear h
  go_enter Try.func71, Try.ntmps71
  go_wp2_with fail
  go_ret
  exact ⟨rfl, rfl⟩
theorem word_any (h : DevSt w F o L T R) {t off : Nat} (ht : t < 8) (ho : off < 18446744073709551616) : Calls Try.prog 46 #[.pointer (some ⟨L.tb t, 0, none⟩), .int .u64 (off : Int)] w fun e w' => e = .returned (.bool (R.isB off)) ∧ w = w' := by
  have c := (h.thr t ht).1.cell (o := 0) rfl
  have hn := h.ok.n2
  have hl := Lib.hid (size_any h)
  clear h
  by_cases ha : off % 8 = 0
  · have e : R.isB off = decide ((off : Int) < (R.lines.length : Int) * 64) := by
      unfold Dv.isB; apply decide_eq_decide.2; omega
    have h8 : (((off : Int) % 8) == 0) = true := by rw [beq_iff_eq]; omega
    rw [e]
    replace ha := Lib.hid ha
    clear e
    go_enter Try.func46, Try.ntmps46
    go_wp2_with fail
    refine hl.out.mono ?_
    rintro e w' ⟨rfl, rfl⟩
    go_wp2_with fail
    go_ret
    exact ⟨rfl, rfl⟩
  · have e : R.isB off = false := by
      unfold Dv.isB; exact decide_eq_false (fun h => ha h.1)
    have h8 : (((off : Int) % 8) == 0) = false := by rw [beq_eq_false_iff_ne]; omega
    rw [e]
    clear e hl
    go_enter Try.func46, Try.ntmps46
    go_wp2_with fail
    go_ret
    exact ⟨rfl, rfl⟩
theorem arm_any (h : DevSt w F o L T R) (n : Int) (hn : n ≤ 9223372036854775807) : Calls Try.prog 95 #[.pointer (some ⟨L.g, 0, none⟩), .int .i64 n] w (DPost w F o L T (armP R n) (.tuple #[])) := by
  generalize hpost : DPost w F o L T (armP R n) (.tuple #[]) = post
  have c := h.dev.cell (o := 11) rfl
  have okA := armP_ok h.ok hn
  cases hoff : R.off with
  | true =>
    have e : armP R n = R := by simp [armP, hoff]
    rw [hoff] at c
    have hfin : post (.returned (.tuple #[])) w := by rw [← hpost, e]; exact ⟨F, rfl, h, Dstep.refl _ _ _⟩
    replace hfin := Lib.hid hfin
    clear e hoff hpost h okA
    go_enter Try.func95, Try.ntmps95
    go_wp2_with fail
    first | exact hfin.out | exact bodyPost_end (results_none rfl _ _ _) rfl hfin.out
  | false =>
    have e : armP R n = { R with left := max n (-1) } := by simp [armP, hoff]
    rw [hoff] at c
    rw [e] at okA
    have f5 := h.dev.free 12
    have c5 := h.dev.cell (o := 12) rfl
    have f6 := h.dev.free 13
    have c6 := h.dev.cell (o := 13) rfl
    obtain ⟨b, m, hb, hm⟩ : ∃ (b : Bool) (m : Int), decide (0 ≤ n) = b ∧ max n 0 = m := ⟨_, _, rfl, rfl⟩
    have hs1 := h.dev.set 12 (.bool b)
    have hs2 := hs1.set 13 (.int .i64 m)
    have hA := (Only.setAt w L.g 12 (.bool b)).trans (Only.setAt _ L.g 13 (.int .i64 m))
    have q1 : decide (0 ≤ max n (-1)) = b := by rw [← hb]; apply decide_eq_decide.2; omega
    have q2 : max (max n (-1)) 0 = m := by omega
    have ec : devCells L { R with left := max n (-1) } = ((devCells L R).set 12 (.bool b)).set 13 (.int .i64 m) := by
      simp only [devCells, List.set_cons_succ, List.set_cons_zero, q1, q2]
    have hD := h.re hA (R' := { R with left := max n (-1) }) (by rw [ec]; exact hs2) rfl rfl rfl okA (Nat.le_refl _)
    have hS := ((Dstep.refl w F o).set (a := ⟨L.g, 12, none⟩) h.fg (.bool b)).set (a := ⟨L.g, 13, none⟩) h.fg (.int .i64 m)
    have hfin : post (.returned (.tuple #[])) ((w.setCell ⟨L.g, 12, none⟩ (.bool b)).setCell ⟨L.g, 13, none⟩ (.int .i64 m)) := by
      rw [← hpost, e]; exact ⟨F, rfl, hD, hS⟩
    clear e hoff hpost h okA hs1 hs2 hA q1 q2 ec hD hS
    by_cases hp : 0 ≤ n
    · obtain rfl : b = true := by rw [← hb]; exact decide_eq_true hp
      obtain rfl : m = n := by omega
      replace hfin := Lib.hid hfin
      clear hb hm
      go_enter Try.func95, Try.ntmps95
      go_wp2_with fail
      first | exact hfin.out | exact bodyPost_end (results_none rfl _ _ _) rfl hfin.out
    · obtain rfl : b = false := by rw [← hb]; exact decide_eq_false hp
      obtain rfl : m = 0 := by omega
      replace hfin := Lib.hid hfin
      clear hb hm
      go_enter Try.func95, Try.ntmps95
      go_wp2_with fail
      first | exact hfin.out | exact bodyPost_end (results_none rfl _ _ _) rfl hfin.out
end Go.Proofs.Ytikjpklbbjmioaa
