/- The program's device: counted, Lines, Size, word. The program's device: the small readers, Arm, word. The program's device: Load, apply. The program's device: write, Store, CAS. The program's device: CAS, persist. The program's device: WriteBack, Flush. The program's device: Fence. The program's device: the walk of Fence. -/
import Derived.Test.YtjmdibgncaljaaaD3
import Derived.StillTailTactics
import Derived.IntWalk
/-! The program's device: counted, Lines, Size, word. -/
namespace Go.Proofs.Ytjmdibgncaljaaa.Dev
open Go.RowKit Go.Maps

set_option maxHeartbeats 2000000 in
theorem counted_any (w : World) (F : Own) (o T t : Nat) (b : Bool) (L : Lay) (R : Dv) (h : DevSt w F o L T R) (hT : T + 1 ≤ 100000) (ht : t < 8) :
    Calls Try.prog 87 #[.pointer (some ⟨L.tb t, 0, none⟩), .bool b] w (DPost w F o L (T + 1) (countP R t b) (.bool (countB R b))) := by
  generalize hpost : DPost w F o L (T + 1) (countP R t b) (.bool (countB R b)) = post
  have hon := on_any w F o T t b L R h ht
  by_cases hm : mayB R b = false
  · have e1 : countB R b = false := by
      unfold mayB at hm; unfold countB; rw [hm]; rfl
    have e2 : countP R t b = mayP R t b := by
      unfold countP mayP
      cases hoff : R.off with
      | true => rfl
      | false => cases b with
        | true => simp [mayB, hoff] at hm
        | false => rfl
    rw [e1, e2] at hpost
    rw [hm] at hon
    have hg : ∀ w1, DPost w F o L T (mayP R t b) (.bool false) (.returned (.bool false)) w1 → post (.returned (.bool false)) w1 := by
      rintro w1 ⟨F1, _, h1, s1⟩
      rw [← hpost]
      exact ⟨F1, rfl, h1.up (by omega) hT, s1⟩
    replace hg := Lib.hid hg
    replace hon := Lib.hid hon
    clear hpost e1 e2 hm h
    go_enter Try.func87, Try.ntmps87
    go_wp2_with fail
    refine hon.out.mono ?_
    rintro e w1 ⟨F1, rfl, h1, s1⟩
    have hx := hg.out w1 ⟨F1, rfl, h1, s1⟩
    replace hx := Lib.hid hx
    clear h1 s1 hg hon
    go_wp2_with fail
    exact hx.out
  · have hm1 : mayB R b = true := by simpa using hm
    have hoff : R.off = false := by
      unfold mayB at hm1; cases hq : R.off with
      | true => rw [hq] at hm1; simp at hm1
      | false => rfl
    have hb : b = true := by
      unfold mayB at hm1; cases b with
      | true => rfl
      | false => simp at hm1
    subst hb
    have em : mayP R t true = R := by simp [mayP, hoff]
    rw [hm1, em] at hon
    have l1 := h.ok.l1
    have l2 := h.ok.l2
    have hex := h.ok.x
    by_cases hz : R.left = 0
    · have e1 : countB R true = false := by simp [countB, hz]
      have e2 : countP R t true = failP { R with off := true } t 3 := by simp [countP, hoff, hz]
      rw [e1, e2] at hpost
      have okO := off_ok h.ok
      replace hpost := Lib.hid hpost
      replace hon := Lib.hid hon
      clear h e1 e2 em hm hm1 hoff
      go_enter Try.func87, Try.ntmps87
      go_wp2_with fail
      refine hon.out.mono ?_
      rintro e w1 ⟨F1, rfl, h1, s1⟩
      have c0 := (h1.thr t ht).1.cell (o := 0) rfl
      have d5 := h1.dev.cell (o := 12) rfl
      have d6 := h1.dev.cell (o := 13) rfl
      have f4 := h1.dev.free 11
      have d4 := h1.dev.cell (o := 11) rfl
      rw [hz] at d5 d6
      have hA := Only.setAt w1 L.g 11 (.bool true)
      have hset := h1.dev.set 11 (.bool true)
      have hD : DevSt (w1.setCell ⟨L.g, 11, none⟩ (.bool true)) F1 o L T { R with off := true } := h1.re hA (by simpa [devCells] using hset) rfl rfl rfl okO (Nat.le_refl _)
      have hS := s1.set (a := ⟨L.g, 11, none⟩) h1.fg (.bool true)
      have hf := fail_any _ F1 o T t 3 L _ hD ht (.inr rfl)
      have c0' := (hD.thr t ht).1.cell (o := 0) rfl
      replace hf := Lib.hid hf
      replace hS := Lib.hid hS
      clear hD hset hA h1 s1
      replace hz := Lib.hid hz
      go_wp2_with fail
      refine hf.out.mono ?_
      rintro e w2 ⟨F2, rfl, h2, s2⟩
      go_wp2_with fail
      rw [← hpost.out]
      exact ⟨F2, rfl, h2.up (by omega) hT, hS.out.trans s2⟩
    · have e1 : countB R true = true := by simp [countB, hoff, hz]
      have e2 : countP R t true = { R with left := (if 0 < R.left then R.left - 1 else R.left), exe := R.exe + 1 } := by simp [countP, hoff, hz]
      rw [e1, e2] at hpost
      have okS := step_ok h.ok hT
      replace hpost := Lib.hid hpost
      replace hon := Lib.hid hon
      clear h e1 e2 em hm hm1 hoff
      go_enter Try.func87, Try.ntmps87
      go_wp2_with fail
      refine hon.out.mono ?_
      rintro e w1 ⟨F1, rfl, h1, s1⟩
      have c0 := (h1.thr t ht).1.cell (o := 0) rfl
      have d5 := h1.dev.cell (o := 12) rfl
      have d6 := h1.dev.cell (o := 13) rfl
      have f6 := h1.dev.free 13
      by_cases hp : 0 < R.left
      · have q1 : decide (0 ≤ R.left) = true := decide_eq_true (by omega)
        have q2 : max R.left 0 = R.left := by omega
        have q3 : decide (0 ≤ R.left - 1) = true := decide_eq_true (by omega)
        have q4 : max (R.left - 1) 0 = R.left - 1 := by omega
        have q5 : (R.left == 0) = false := by rw [beq_eq_false_iff_ne]; exact hz
        rw [q1] at d5
        rw [q2] at d6
        rw [if_pos hp] at okS hpost
        have hs1 := h1.dev.set 13 (.int .i64 (R.left - 1))
        have d7 := hs1.cell (o := 14) rfl
        have f7 := hs1.free 14
        have hs2 := hs1.set 14 (.int .u64 ((R.exe : Int) + 1))
        have hA := (Only.setAt w1 L.g 13 (.int .i64 (R.left - 1))).trans (Only.setAt _ L.g 14 (.int .u64 ((R.exe : Int) + 1)))
        have hD := h1.re hA (R' := { R with left := R.left - 1, exe := R.exe + 1 }) (by rw [show devCells L { R with left := R.left - 1, exe := R.exe + 1 } = ((devCells L R).set 13 (.int .i64 (R.left - 1))).set 14 (.int .u64 ((R.exe : Int) + 1)) from by simp only [devCells, List.set_cons_succ, List.set_cons_zero, q1, q3, q4]; rfl]; exact hs2) rfl rfl rfl okS (by omega)
        have hS := (s1.set (a := ⟨L.g, 13, none⟩) h1.fg (.int .i64 (R.left - 1))).set (a := ⟨L.g, 14, none⟩) h1.fg (.int .u64 ((R.exe : Int) + 1))
        have hfin : post (.returned (.bool true)) ((w1.setCell ⟨L.g, 13, none⟩ (.int .i64 (R.left - 1))).setCell ⟨L.g, 14, none⟩ (.int .u64 ((R.exe : Int) + 1))) := by
          rw [← hpost.out]; exact ⟨F1, rfl, hD, hS⟩
        replace hfin := Lib.hid hfin
        clear hs1 hs2 hA hD hS h1 s1 q1 q2 q3 q4 hpost okS hon
        generalize R.left = lf at *
        generalize R.exe = ex at *
        have hex2 : (ex : Int) ≤ 100000 := by omega
        go_wp2_with fail
        exact hfin.out
      · have q0 : R.left = -1 := by omega
        have q1 : decide (0 ≤ R.left) = false := decide_eq_false (by omega)
        rw [q1] at d5
        rw [if_neg hp] at okS hpost
        have d7 := h1.dev.cell (o := 14) rfl
        have f7 := h1.dev.free 14
        have hs2 := h1.dev.set 14 (.int .u64 ((R.exe : Int) + 1))
        have hA := (Only.setAt w1 L.g 14 (.int .u64 ((R.exe : Int) + 1)))
        have hD := h1.re hA (R' := { R with left := R.left, exe := R.exe + 1 }) (by rw [show devCells L { R with left := R.left, exe := R.exe + 1 } = (devCells L R).set 14 (.int .u64 ((R.exe : Int) + 1)) from by simp only [devCells, List.set_cons_succ, List.set_cons_zero]; rfl]; exact hs2) rfl rfl rfl okS (by omega)
        have hS := s1.set (a := ⟨L.g, 14, none⟩) h1.fg (.int .u64 ((R.exe : Int) + 1))
        have hfin : post (.returned (.bool true)) (w1.setCell ⟨L.g, 14, none⟩ (.int .u64 ((R.exe : Int) + 1))) := by
          rw [← hpost.out]; exact ⟨F1, rfl, hD, hS⟩
        replace hfin := Lib.hid hfin
        clear hs2 hA hD hS h1 s1 q1 q0 hpost okS hon d6
        generalize R.exe = ex at *
        have hex2 : (ex : Int) ≤ 100000 := by omega
        go_wp2_with fail
        exact hfin.out
end Go.Proofs.Ytjmdibgncaljaaa.Dev

/-! The program's device: the small readers, Arm, word. -/
namespace Go.Proofs.Ytjmdibgncaljaaa.Dev
open Go.RowKit Go.Maps

def Ret (w : World) (v : Value) (e : Ending) (w' : World) : Prop := e = .returned v ∧ w = w'
variable {w : World} {F : Own} {o T : Nat} {L : Lay} {R : Dv}
theorem lines_any (h : DevSt w F o L T R) : Calls Try.prog 90 #[.pointer (some ⟨L.g, 0, none⟩)] w fun e w' => e = .returned (.int .i64 (R.lines.length : Int)) ∧ w = w' := by
  have c := h.dev.cell (o := 2) rfl
  clear h
  go_enter Try.func90, Try.ntmps90
  go_wp2_with fail
  go_ret
  exact ⟨rfl, rfl⟩
theorem size_any (h : DevSt w F o L T R) : Calls Try.prog 47 #[.pointer (some ⟨L.g, 0, none⟩)] w fun e w' => e = .returned (.int .u64 ((R.lines.length : Int) * 64)) ∧ w = w' := by
  have hn := h.ok.n2
  have hl := Lib.hid (lines_any h)
  clear h
  go_enter Try.func47, Try.ntmps47
  go_wp2_with fail
  refine hl.out.mono ?_
  rintro e w' ⟨rfl, rfl⟩
  go_wp2_with fail
  go_ret
  exact ⟨rfl, rfl⟩
theorem tsize_any (h : DevSt w F o L T R) {t : Nat} (ht : t < 8) : Calls Try.prog 150 #[.pointer (some ⟨L.tb t, 0, none⟩)] w fun e w' => e = .returned (.int .u64 ((R.lines.length : Int) * 64)) ∧ w = w' := by
  have c := (h.thr t ht).1.cell (o := 0) rfl
  have hl := Lib.hid (size_any h)
  clear h
  go_enter Try.func150, Try.ntmps150
  go_wp2_with fail
  refine hl.out.mono ?_
  rintro e w' ⟨rfl, rfl⟩
  go_wp2_with fail
  go_ret
  exact ⟨rfl, rfl⟩
theorem off_any (h : DevSt w F o L T R) : Calls Try.prog 49 #[.pointer (some ⟨L.g, 0, none⟩)] w fun e w' => e = .returned (.bool R.off) ∧ w = w' := by
  have c := h.dev.cell (o := 11) rfl
  clear h
  go_enter Try.func49, Try.ntmps49
  go_wp2_with fail
  go_ret
  exact ⟨rfl, rfl⟩
theorem thread_in (h : DevSt w F o L T R) {t : Nat} (ht : t < 8) : Calls Try.prog 21 #[.pointer (some ⟨L.g, 0, none⟩), .int .i64 (t : Int)] w fun e w' => e = .returned (.pointer (some ⟨L.tb t, 0, none⟩)) ∧ w = w' := by
  have c := h.dev.cell (devCells_thr L R t ht)
  have hI : (t : Int) < 8 := by omega
  have h0 : (0 : Int) ≤ (t : Int) := by omega
  clear h
  go_enter Try.func21, Try.ntmps21
  go_wp2_with fail
  go_ret
  exact ⟨rfl, rfl⟩
theorem thread_out (g : Nat) (t : Int) (ht : t < 0 ∨ 8 ≤ t) : Calls Try.prog 21 #[.pointer (some ⟨g, 0, none⟩), .int .i64 t] w fun e w' => e = .returned (.pointer none) ∧ w = w' := by
  rcases ht with ht | ht
  · go_enter Try.func21, Try.ntmps21
    go_wp2_with fail
    go_ret
    exact ⟨rfl, rfl⟩
  · have h0 : ¬ t < 0 := by omega
    have h1 : decide (t < 0) = false := decide_eq_false h0
    go_enter Try.func21, Try.ntmps21
    go_wp2_with fail
    go_ret
    exact ⟨rfl, rfl⟩
theorem err_any (h : DevSt w F o L T R) {t : Nat} (ht : t < 8) : Calls Try.prog 149 #[.pointer (some ⟨L.tb t, 0, none⟩)] w fun e w' => e = .returned (.int .i64 ((R.errs.getD t 0 : Nat) : Int)) ∧ w = w' := by
  have c := (h.thr t ht).1.cell (o := 0) rfl
  have c2 := (h.thr t ht).1.cell (o := 2) rfl
  clear h
  go_enter Try.func149, Try.ntmps149
  go_wp2_with fail
  go_ret
  exact ⟨rfl, rfl⟩
theorem word_any (h : DevSt w F o L T R) {t off : Nat} (ht : t < 8) (ho : off < 18446744073709551616) : Calls Try.prog 88 #[.pointer (some ⟨L.tb t, 0, none⟩), .int .u64 (off : Int)] w fun e w' => e = .returned (.bool (R.isB off)) ∧ w = w' := by
  have c := (h.thr t ht).1.cell (o := 0) rfl
  have hn := h.ok.n2
  have hl := Lib.hid (size_any h)
  clear h
  by_cases ha : off % 8 = 0
  · have e : R.isB off = decide ((off : Int) < (R.lines.length : Int) * 64) := by
      unfold Dv.isB; apply decide_eq_decide.2; omega
    have h8 : (((off : Int) % 8) == 0) = true := by rw [beq_iff_eq]; omega
    rw [e]
    replace ha := Lib.hid ha
    clear e
    go_enter Try.func88, Try.ntmps88
    go_wp2_with fail
    refine hl.out.mono ?_
    rintro e w' ⟨rfl, rfl⟩
    go_wp2_with fail
    go_ret
    exact ⟨rfl, rfl⟩
  · have e : R.isB off = false := by
      unfold Dv.isB; exact decide_eq_false (fun h => ha h.1)
    have h8 : (((off : Int) % 8) == 0) = false := by rw [beq_eq_false_iff_ne]; omega
    rw [e]
    clear e hl
    go_enter Try.func88, Try.ntmps88
    go_wp2_with fail
    go_ret
    exact ⟨rfl, rfl⟩
theorem arm_any (h : DevSt w F o L T R) (n : Int) (hn : n ≤ 9223372036854775807) : Calls Try.prog 41 #[.pointer (some ⟨L.g, 0, none⟩), .int .i64 n] w (DPost w F o L T (armP R n) (.tuple #[])) := by
  generalize hpost : DPost w F o L T (armP R n) (.tuple #[]) = post
  have c := h.dev.cell (o := 11) rfl
  have okA := armP_ok h.ok hn
  cases hoff : R.off with
  | true =>
    have e : armP R n = R := by simp [armP, hoff]
    rw [hoff] at c
    have hfin : post (.returned (.tuple #[])) w := by rw [← hpost, e]; exact ⟨F, rfl, h, Dstep.refl _ _ _⟩
    replace hfin := Lib.hid hfin
    clear e hoff hpost h okA
    go_enter Try.func41, Try.ntmps41
    go_wp2_with fail
    first | exact hfin.out | exact bodyPost_end (results_none rfl _ _ _) rfl hfin.out
  | false =>
    have e : armP R n = { R with left := max n (-1) } := by simp [armP, hoff]
    rw [hoff] at c
    rw [e] at okA
    have f5 := h.dev.free 12
    have c5 := h.dev.cell (o := 12) rfl
    have f6 := h.dev.free 13
    have c6 := h.dev.cell (o := 13) rfl
    obtain ⟨b, m, hb, hm⟩ : ∃ (b : Bool) (m : Int), decide (0 ≤ n) = b ∧ max n 0 = m := ⟨_, _, rfl, rfl⟩
    have hs1 := h.dev.set 12 (.bool b)
    have hs2 := hs1.set 13 (.int .i64 m)
    have hA := (Only.setAt w L.g 12 (.bool b)).trans (Only.setAt _ L.g 13 (.int .i64 m))
    have q1 : decide (0 ≤ max n (-1)) = b := by rw [← hb]; apply decide_eq_decide.2; omega
    have q2 : max (max n (-1)) 0 = m := by omega
    have ec : devCells L { R with left := max n (-1) } = ((devCells L R).set 12 (.bool b)).set 13 (.int .i64 m) := by
      simp only [devCells, List.set_cons_succ, List.set_cons_zero, q1, q2]
    have hD := h.re hA (R' := { R with left := max n (-1) }) (by rw [ec]; exact hs2) rfl rfl rfl okA (Nat.le_refl _)
    have hS := ((Dstep.refl w F o).set (a := ⟨L.g, 12, none⟩) h.fg (.bool b)).set (a := ⟨L.g, 13, none⟩) h.fg (.int .i64 m)
    have hfin : post (.returned (.tuple #[])) ((w.setCell ⟨L.g, 12, none⟩ (.bool b)).setCell ⟨L.g, 13, none⟩ (.int .i64 m)) := by
      rw [← hpost, e]; exact ⟨F, rfl, hD, hS⟩
    clear e hoff hpost h okA hs1 hs2 hA q1 q2 ec hD hS
    by_cases hp : 0 ≤ n
    · obtain rfl : b = true := by rw [← hb]; exact decide_eq_true hp
      obtain rfl : m = n := by omega
      replace hfin := Lib.hid hfin
      clear hb hm
      go_enter Try.func41, Try.ntmps41
      go_wp2_with fail
      first | exact hfin.out | exact bodyPost_end (results_none rfl _ _ _) rfl hfin.out
    · obtain rfl : b = false := by rw [← hb]; exact decide_eq_false hp
      obtain rfl : m = 0 := by omega
      replace hfin := Lib.hid hfin
      clear hb hm
      go_enter Try.func41, Try.ntmps41
      go_wp2_with fail
      first | exact hfin.out | exact bodyPost_end (results_none rfl _ _ _) rfl hfin.out
end Go.Proofs.Ytjmdibgncaljaaa.Dev

/-! The program's device: Load, apply. -/
namespace Go.Proofs.Ytjmdibgncaljaaa.Dev
open Go.RowKit Go.Maps
variable {w : World} {F : Own} {o T : Nat} {L : Lay} {R : Dv}

theorem mayP_full (R : Dv) (t : Nat) (b : Bool) (h : mayB R b = true) : mayP R t b = R ∧ b = true := by
  unfold mayB at h
  cases hoff : R.off <;> cases b <;> simp [hoff] at h
  simp [mayP, hoff]
set_option maxHeartbeats 1000000 in
theorem load_any (h : DevSt w F o L T R) {t off : Nat} (ht : t < 8) (ho : off < 18446744073709551616) :
    Calls Try.prog 63 #[.pointer (some ⟨L.tb t, 0, none⟩), .int .u64 (off : Int)] w (DPost w F o L T (mayP R t (R.isB off)) (.int .u64 ((loadV R off : Nat) : Int))) := by
  generalize hpost : DPost w F o L T (mayP R t (R.isB off)) (.int .u64 ((loadV R off : Nat) : Int)) = post
  have c0 := (h.thr t ht).1.cell (o := 0) rfl
  have hw := Lib.hid (word_any h ht ho)
  have hon := on_any w F o T t (R.isB off) L R h ht
  by_cases hm : mayB R (R.isB off) = true
  · obtain ⟨e1, e2⟩ := mayP_full R t _ hm
    have hin : off < 64 * R.lines.length ∧ off % 8 = 0 := by
      unfold Dv.isB at e2; simp only [decide_eq_true_eq] at e2; exact ⟨e2.2, e2.1⟩
    have e3 : loadV R off = valueP R off := by unfold loadV; rw [if_pos hm]
    rw [e1, e3] at hpost
    rw [hm, e1] at hon
    have hcur := cur_at h.ok hin.1
    have hn2 := h.ok.n2
    have ho8I : ((off / 8 : Nat) : Int) < ((R.lines.length * 8 : Nat) : Int) := by omega
    replace hcur := Lib.hid hcur
    replace hpost := Lib.hid hpost
    replace hon := Lib.hid hon
    clear h hm e1 e2 e3
    go_enter Try.func63, Try.ntmps63
    go_wp2_with fail
    refine hw.out.mono ?_
    rintro e w' ⟨rfl, rfl⟩
    go_wp2_with fail
    refine hon.out.mono ?_
    rintro e w1 ⟨F1, rfl, h1, s1⟩
    have c0 := (h1.thr t ht).1.cell (o := 0) rfl
    have c1 := h1.dev.cell (o := 1) rfl
    have cc := h1.cur.cellAt (off / 8) (by omega)
    rw [u64s_get _ _ _ hcur.out] at cc
    replace h1 := Lib.hid h1
    obtain ⟨_, hin2⟩ := hin
    replace hin2 := Lib.hid hin2
    go_wp2_with fail
    rw [← hpost.out]
    exact ⟨F1, rfl, h1.out, s1⟩
  · have hm1 : mayB R (R.isB off) = false := by simpa using hm
    have e3 : loadV R off = 0 := by unfold loadV; rw [if_neg hm]
    rw [e3] at hpost
    rw [hm1] at hon
    replace hpost := Lib.hid hpost
    replace hon := Lib.hid hon
    clear h hm hm1 e3
    go_enter Try.func63, Try.ntmps63
    go_wp2_with fail
    refine hw.out.mono ?_
    rintro e w' ⟨rfl, rfl⟩
    go_wp2_with fail
    refine hon.out.mono ?_
    rintro e w1 ⟨F1, rfl, h1, s1⟩
    replace h1 := Lib.hid h1
    go_wp2_with fail
    rw [← hpost.out]
    exact ⟨F1, rfl, h1.out, s1⟩

def ApplyPost (w : World) (pb pc m : Nat) (ws : List Nat) (e : Ending) (w' : World) : Prop :=
  e = .returned (.tuple #[]) ∧ w'.ownsRow 0 27 1 (.slice (some ⟨pb, 0, none⟩) m pc) m (u64s ws) ∧ Only (fun k => k = pb) w w'
set_option maxHeartbeats 2000000 in
theorem apply_any (w : World) (pb pc m : Nat) (ws : List Nat) (hown : w.ownsRow 0 27 1 (.slice (some ⟨pb, 0, none⟩) m pc) m (u64s ws)) (sa : Option Addr) (sc : Nat) (ps : List (Nat × Nat)) (hr : Rd w (.slice sa ps.length sc) ps.length (wcells ps))
    (hne : ∀ k, Value.ownBlock (.slice sa ps.length sc) = some k → ¬ k = pb) (hm : m ≤ 40000) (hl : ps.length ≤ 100000) (hp : ∀ p ∈ ps, p.1 / 8 < m ∧ p.1 < 18446744073709551616 ∧ p.2 < 18446744073709551616) :
    Calls Try.prog 104 #[.slice (some ⟨pb, 0, none⟩) m pc, .slice sa ps.length sc] w (ApplyPost w pb pc m (ps.foldl setA ws)) := by
  generalize hpost : ApplyPost w pb pc m (ps.foldl setA ws) = post
  replace hpost := Lib.hid hpost
  go_enter Try.func104, Try.ntmps104
  go_wp2_with fail
  go_loopw [8] (fun i wr => ∃ k : Nat, k ≤ ps.length ∧ i = .int .i64 k ∧ wr.ownsRow 0 27 1 (.slice (some ⟨pb, 0, none⟩) m pc) m (u64s ((ps.take k).foldl setA ws)) ∧ Only (fun k => k = pb) w wr) (fun i _ => ps.length - (intOf i).toNat)
  case atStart => exact ⟨0, Nat.zero_le _, rfl, hown, Only.refl _ _⟩
  case round =>
    clear hown
    obtain ⟨k, hk, rfl, hown, hO⟩ := hrel
    by_cases hlt : k < ps.length
    · have hat := get_of_lt (0, 0) hlt
      have hpk := hp _ (List.mem_of_getElem? hat)
      have hsucc : (ps.take (k + 1)).foldl setA ws = setA ((ps.take k).foldl setA ws) (ps.getD k (0, 0)) := by
        rw [take_getD ps k (0, 0) hlt, List.foldl_append]; rfl
      generalize ps.getD k (0, 0) = p at *
      obtain ⟨p1, p2⟩ := p
      obtain ⟨hp1, hp2, hp3⟩ := hpk
      simp only at hp1 hp2 hp3
      have hrw := hr.only hO hne
      obtain ⟨bl, ol, cl, ea, fa⟩ := hrw.cells (by omega)
      simp only [Value.slice.injEq, true_and] at ea
      obtain ⟨rfl, hcap⟩ := ea
      replace hcap := Lib.hid hcap
      have c0 : wr.cell? ⟨bl, ol + k * 2, none⟩ = _ := fa _ _ (wcells_get ps k _ hat).1
      have c1 : wr.cell? ⟨bl, ol + k * 2 + 1, none⟩ = _ := fa _ _ (wcells_get ps k _ hat).2
      simp only at c0 c1
      have hH := Has.new wr [.int .u64 p1, .int .u64 p2] 133
      have e0 := hH.cell (o := 0) rfl
      have e1 := hH.cell (o := 1) rfl
      have hwl := hown.1
      rw [u64s_len] at hwl
      have hownA := hown.alloc (.cells #[.int .u64 (p1 : Int), .int .u64 (p2 : Int)] 133)
      have hq : (p1 / 8) < ((ps.take k).foldl setA ws).length := by omega
      have hc := hownA.cellAt (p1 / 8) (by omega)
      rw [u64s_get _ _ _ (get_of_lt 0 hq)] at hc
      have hf := hownA.frozenAt (p1 / 8)
      have hst := (hownA.stored (p1 / 8) (.int .u64 (p2 : Int))).1
      rw [← u64s_set] at hst
      have hO2 := (hO.alloc (.cells #[.int .u64 (p1 : Int), .int .u64 (p2 : Int)] 133)).setCell (a := ⟨pb, p1 / 8, none⟩) (fun _ => rfl) (.int .u64 (p2 : Int))
      have e2 : setA ((ps.take k).foldl setA ws) (p1, p2) = ((ps.take k).foldl setA ws).set (p1 / 8) p2 := rfl
      rw [← e2, ← hsucc] at hst
      have hqI : ((p1 / 8 : Nat) : Int) < (m : Int) := by omega
      have hlI : (k : Int) < ps.length := by omega
      replace hsucc := Lib.hid hsucc
      replace hwl := Lib.hid hwl
      replace hat := Lib.hid hat
      replace hst := Lib.hid hst
      clear hown hownA hrw fa e2 hH
      generalize ((ps.take k).foldl setA ws).getD (p1 / 8) 0 = old at *
      go_wp2_with fail
      go_roundw
      case rel => exact ⟨k + 1, by omega, by go_num, hst.out, hO2⟩
      case measure => simp [intOf]; omega
    · obtain rfl : k = ps.length := by omega
      rw [List.take_length] at hown
      have hfin : post (.returned (.tuple #[])) wr := by rw [← hpost.out]; exact ⟨rfl, hown, hO⟩
      replace hfin := Lib.hid hfin
      clear hown
      go_wp2_with fail
      first | exact hfin.out | exact bodyPost_end (results_none rfl _ _ _) rfl hfin.out
end Go.Proofs.Ytjmdibgncaljaaa.Dev

/-! The program's device: write, Store, CAS. -/
namespace Go.Proofs.Ytjmdibgncaljaaa.Dev
open Go.RowKit Go.Maps
variable {w : World} {F : Own} {o T : Nat} {L : Lay} {R : Dv}

/-- One history has changed, and nothing else of the lines' block but that line's cells. -/
theorem LinSt.one {w w' : World} {F F' : Own} {o lb i : Nat} {R : Dv} {cs cs' : List Value} {hv : Nat → Value} {S : Nat → Prop} {l : Ln} {v : Value}
    (hi : i < R.lines.length) (hl2 : cs.length = R.lines.length * 2)
    (h : ∀ j, j < R.lines.length → cs[j * 2]? = some (.int .u64 ((R.line j).done : Int)) ∧ cs[j * 2 + 1]? = some (hv j) ∧ SubV w 133 2 (hv j) (R.line j).hist.length (wcells (R.line j).hist) ∧ ∀ k, (hv j).ownBlock = some k → F k = some (o, 4, j))
    (hH : Has w' lb cs' 176) (hcl : cs'.length = cs.length) (hcs : ∀ j, j ≠ i * 2 → j ≠ i * 2 + 1 → cs'[j]? = cs[j]?) (hc0 : cs'[i * 2]? = some (.int .u64 (l.done : Int))) (hc1 : cs'[i * 2 + 1]? = some v)
    (hsub : SubV w' 133 2 v l.hist.length (wcells l.hist)) (hr : ∀ k, v.ownBlock = some k → F' k = some (o, 4, i))
    (ho : Only S w w') (hx : Ext w F F') (hs : ∀ k j, S k → j ≠ i → F k ≠ some (o, 4, j)) : LinSt w' F' o lb (R.setLine i l) := by
  refine ⟨cs', fun j => if j = i then v else hv j, hH, by rw [setLine_len, hcl, hl2], fun j hj => ?_⟩
  rw [setLine_len] at hj
  rw [setLine_line l hi]
  by_cases e : j = i
  · subst e; simp only [if_true]; exact ⟨hc0, hc1, hsub, hr⟩
  · obtain ⟨a, b, c, d⟩ := h j hj
    simp only [if_neg e]
    exact ⟨by rw [hcs _ (by omega) (by omega)]; exact a, by rw [hcs _ (by omega) (by omega)]; exact b, c.only ho (fun k hk s => hs k j s e (d k hk)), fun k hk => (hx k (c.lt hk)).trans (d k hk)⟩

/-- A store has been put into the history of its line, and into the current words. -/
theorem DevSt.put {w w' : World} {F F' : Own} {o T : Nat} {L : Lay} {R : Dv} {S : Nat → Prop} (h : DevSt w F o L T R) (hT : T + 1 ≤ 100000) {off v : Nat} (hof : off < 64 * R.lines.length) (ha : off % 8 = 0) (hv : v < 18446744073709551616)
    (ho : Only S w w') (hx : Ext w F F') (hs : ∀ k, S k → F k = some (o, 4, off / 64) ∨ k = L.lb ∨ k = L.cb)
    (hlin : LinSt w' F' o L.lb (putP R off v)) (hcur : w'.ownsRow 0 27 1 (.slice (some ⟨L.cb, 0, none⟩) (R.lines.length * 8) L.cc) (R.lines.length * 8) (u64s (R.curW.set (off / 8) v))) :
    DevSt w' F' o L (T + 1) (putP R off v) := by
  have e : ∀ {b r}, F b = some (o, r) → b < w.heap.size → F' b = some (o, r) := fun h1 h2 => (hx _ h2).trans h1
  have ne : ∀ {b : Nat} {r : Nat × Nat}, F b = some (o, r) → r.1 ≠ 4 → r ≠ (3, 0) → r ≠ (2, 0) → ¬ S b := by
    intro b r hb h4 h3 h2 s
    rcases hs b s with h1 | rfl | rfl
    · rw [hb] at h1; cases h1; exact h4 rfl
    · have := h.fl; rw [hb] at this; cases this; exact h3 rfl
    · have := h.fc; rw [hb] at this; cases this; exact h2 rfl
  have elen : (putP R off v).lines.length = R.lines.length := setLine_len _ _ _
  refine ⟨putP_ok h.ok hT hof ha hv, ?_, e h.fg h.dev.lt, ?_, e h.fp (ownsRow_lt h.per rfl), ?_, e h.fc (ownsRow_lt h.cur rfl), hlin, ?_, fun t ht => ?_, fun t ht => ?_⟩
  · have : devCells L (putP R off v) = devCells L R := by unfold devCells; rw [elen]; rfl
    rw [this]; exact h.dev.only ho (ne h.fg (by simp) (by simp) (by simp))
  · rw [elen, putP_per hof]; exact ownsRow_only h.per ho (by rintro k hk; cases hk; exact ne h.fp (by simp) (by simp) (by simp))
  · rw [elen, putP_cur h.ok hof]; exact hcur
  · obtain ⟨cs, hv, h1, _⟩ := h.lin; exact e h.fl h1.lt
  · obtain ⟨h1, h2⟩ := h.thr t ht; exact ⟨h1.only ho (ne h2 (by simp) (by simp) (by simp)), e h2 h1.lt⟩
  · obtain ⟨h1, h2⟩ := h.nov t ht
    rw [elen]
    exact ⟨(h1.only ho (ne h2 (by simp) (by simp) (by simp))).up (by omega), e h2 h1.lt⟩

set_option maxHeartbeats 4000000 in
set_option maxRecDepth 100000 in
theorem write_any (h : DevSt w F o L T R) (hT : T + 1 ≤ 100000) {t off v : Nat} (ht : t < 8) (hof : off < 64 * R.lines.length) (ha : off % 8 = 0) (hv : v < 18446744073709551616) :
    Calls Try.prog 89 #[.pointer (some ⟨L.tb t, 0, none⟩), .int .u64 (off : Int), .int .u64 (v : Int)] w (DPost w F o L (T + 1) (putP R off v) (.tuple #[])) := by
  generalize hpost : DPost w F o L (T + 1) (putP R off v) (.tuple #[]) = post
  replace hpost := Lib.hid hpost
  have hn2 := h.ok.n2
  have hi : off / 64 < R.lines.length := by omega
  have hq : off / 8 < R.curW.length := by rw [h.ok.curLen]; omega
  have c0 := (h.thr t ht).1.cell (o := 0) rfl
  have d1 := h.dev.cell (o := 1) rfl
  have d2 := h.dev.cell (o := 2) rfl
  obtain ⟨cs, hv', hL, hcl, hlin⟩ := h.lin
  obtain ⟨x0, x1, hsub, hrole⟩ := hlin _ hi
  have hhl := (h.ok.ln _ hi).hl
  have ht100 := h.ok.t
  have l1 := hL.cell x1
  have lf := hL.free (off / 64 * 2 + 1)
  have hlnI : ((off / 64 : Nat) : Int) < (R.lines.length : Int) := by omega
  have hqI : ((off / 8 : Nat) : Int) < ((R.lines.length * 8 : Nat) : Int) := by omega
  have cu := h.cur.cellAt (off / 8) (by omega)
  rw [u64s_get _ _ _ (get_of_lt 0 hq)] at cu
  have cuf := h.cur.frozenAt (off / 8)
  have nlc : L.lb ≠ L.cb := Own.ne h.fl h.fc (by simp)
  generalize hvv : hv' (off / 64) = hvl at *
  replace hvv := Lib.hid hvv
  generalize R.curW.getD (off / 8) 0 = old at *
  have hlg := hL.lt
  have hcg : L.cb < w.heap.size := ownsRow_lt h.cur rfl
  have hA := Has.new w [.int .u64 (off : Int), .int .u64 (v : Int)] 133
  have A0 := hA.cell (o := 0) rfl
  have A1 := hA.cell (o := 1) rfl
  have hsubA := hsub.alloc (.cells #[.int .u64 (off : Int), .int .u64 (v : Int)] 133)
  go_enter Try.func89, Try.ntmps89
  go_wp2_with (at_builtin; refine wpList_appSub rfl (.tmp 21) (.tmp 25) 88 rfl 133 (.agg #[.int .u64 0, .int .u64 0]) 2 16 Try.underlying88 infoW rfl (by decide) (by decide) hvl _ (wcells (R.line (off / 64)).hist) hsubA rfl _ 1 1 [.int .u64 off, .int .u64 v] rfl rfl ?hnews (by simp [Value.oneCell']) (by decide) ?hby ?_)
  case hnews =>
    intro j u hj
    match j, hj with
    | 0, hj => simp at hj; subst hj; exact A0
    | 1, hj => simp at hj; subst hj; exact A1
    | j + 2, hj => simp at hj
  case hby => omega
  intro b bo cap w1 hS1 hO1 hfr1
  have hO1' : Only (fun k => F k = some (o, 4, off / 64)) w w1 := ((Only.refl _ w).alloc _).trans' hO1 (fun k _ hk => hrole k hk)
  have hx1 : Ext w F (F.put b (o, 4, off / 64)) := by
    intro k hk
    unfold Own.put
    split
    · rename_i e; subst e
      rcases hfr1 with h1 | h1
      · exact (hrole k h1).symm
      · first | omega | (simp at h1; omega)
    · rfl
  have nS : ∀ {b : Nat} {r : Nat × Nat}, F b = some (o, r) → r.1 ≠ 4 → ¬ F b = some (o, 4, off / 64) := fun hb h4 h5 => by rw [hb] at h5; cases h5; exact h4 rfl
  have hL1 := hL.only hO1' (nS h.fl (by simp))
  have l1' := hL1.cell x1
  have lf' := hL1.free (off / 64 * 2 + 1)
  have hc1 := ownsRow_only h.cur hO1' (by rintro k hk; cases hk; exact nS h.fc (by simp))
  have cu1 := hc1.cellAt (off / 8) (by omega)
  rw [u64s_get _ _ _ (get_of_lt 0 hq)] at cu1
  have cuf1 := hc1.frozenAt (off / 8)
  have c01 := (h.thr t ht).1.only hO1' (nS (h.thr t ht).2 (by simp))
  have c01 := c01.cell (o := 0) rfl
  have d11 := h.dev.only hO1' (nS h.fg (by simp))
  have d11 := d11.cell (o := 1) rfl
  have bne : b ≠ L.lb ∧ b ≠ L.cb := by
    rcases hfr1 with h1 | h1
    · exact ⟨Own.ne (hrole b h1) h.fl (by simp), Own.ne (hrole b h1) h.fc (by simp)⟩
    · first | omega | (simp at h1; omega)
  have hL2 := hL1.set (off / 64 * 2 + 1) (.slice (some ⟨b, bo, none⟩) ((R.line (off / 64)).hist.length + 1) cap)
  have hc2 := ownsRow_only hc1 (Only.setAt w1 L.lb (off / 64 * 2 + 1) (.slice (some ⟨b, bo, none⟩) ((R.line (off / 64)).hist.length + 1) cap)) (by rintro k hk; cases hk; exact fun e => nlc e.symm)
  have hc3 := (hc2.stored (off / 8) (.int .u64 (v : Int))).1
  rw [← u64s_set] at hc3
  have hL3 := hL2.set_ne (a := ⟨L.cb, off / 8, none⟩) nlc (.int .u64 (v : Int))
  have hS3 := (hS1.only (Only.setAt w1 L.lb (off / 64 * 2 + 1) (.slice (some ⟨b, bo, none⟩) ((R.line (off / 64)).hist.length + 1) cap)) (by intro k hk; cases hk; exact bne.1)).only (Only.setAt _ L.cb (off / 8) (.int .u64 (v : Int))) (by intro k hk; cases hk; exact bne.2)
  have hO3 : Only (fun k => F k = some (o, 4, off / 64) ∨ k = L.lb ∨ k = L.cb) w ((w1.setCell ⟨L.lb, off / 64 * 2 + 1, none⟩ (.slice (some ⟨b, bo, none⟩) ((R.line (off / 64)).hist.length + 1) cap)).setCell ⟨L.cb, off / 8, none⟩ (.int .u64 (v : Int))) :=
    ((hO1'.mono (S' := fun k => F k = some (o, 4, off / 64) ∨ k = L.lb ∨ k = L.cb) (fun k _ hk => Or.inl hk)).setCell (a := ⟨L.lb, off / 64 * 2 + 1, none⟩) (fun _ => Or.inr (Or.inl rfl)) _).setCell (a := ⟨L.cb, off / 8, none⟩) (fun _ => Or.inr (Or.inr rfl)) _
  have hlin3 : LinSt ((w1.setCell ⟨L.lb, off / 64 * 2 + 1, none⟩ (.slice (some ⟨b, bo, none⟩) ((R.line (off / 64)).hist.length + 1) cap)).setCell ⟨L.cb, off / 8, none⟩ (.int .u64 (v : Int))) (F.put b (o, 4, off / 64)) o L.lb (putP R off v) := by
    refine LinSt.one (v := .slice (some ⟨b, bo, none⟩) ((R.line (off / 64)).hist.length + 1) cap) (hv := hv') (cs := cs) hi hcl hlin hL3 (by simp) ?_ ?_ ?_ ?_ ?_ hO3 hx1 ?_
    · intro j h1 h2; rw [List.getElem?_set_ne (fun e => h2 e.symm)]
    · rw [List.getElem?_set_ne (by omega)]; exact x0
    · exact List.getElem?_set_self (by rw [hcl]; omega)
    · simp only [putL, List.length_append, List.length_singleton, wcells_snoc]; exact hS3
    · intro k hk; cases hk; exact Own.put_at _ _ _
    · rintro k j (h1 | rfl | rfl) hj h2
      · rw [h1] at h2; cases h2; exact hj rfl
      · rw [h.fl] at h2; cases h2
      · rw [h.fc] at h2; cases h2
  have hD := h.put hT hof ha hv hO3 hx1 (fun k hk => hk) hlin3 hc3
  have hfin : post (.returned (.tuple #[])) ((w1.setCell ⟨L.lb, off / 64 * 2 + 1, none⟩ (.slice (some ⟨b, bo, none⟩) ((R.line (off / 64)).hist.length + 1) cap)).setCell ⟨L.cb, off / 8, none⟩ (.int .u64 (v : Int))) := by
    rw [← hpost.out]
    exact ⟨_, rfl, hD, hx1, hO3.mono (by
      rintro k _ (h1 | rfl | rfl)
      · exact ⟨_, h1⟩
      · exact ⟨_, h.fl⟩
      · exact ⟨_, h.fc⟩)⟩
  have nl2 : L.g ≠ L.lb := Own.ne h.fg h.fl (by simp)
  have nl3 : L.tb t ≠ L.lb := Own.ne (h.thr t ht).2 h.fl (by simp)
  replace hfin := Lib.hid hfin
  clear hD hlin3 hO3 hS3 hL3 hc3 hc2 hL2 hc1 hL1 hx1 hO1' hO1 hS1 hsubA hsub hlin hL h c0 d1 d2 l1 lf cu cuf A0 A1 hA
  go_wp2_with fail
  first | exact hfin.out | exact bodyPost_end (results_none rfl _ _ _) rfl hfin.out

set_option maxHeartbeats 2000000 in
theorem store_any (h : DevSt w F o L T R) (hT : T + 2 ≤ 100000) {t off v : Nat} (ht : t < 8) (hof : off < 18446744073709551616) (hv : v < 18446744073709551616) :
    Calls Try.prog 43 #[.pointer (some ⟨L.tb t, 0, none⟩), .int .u64 (off : Int), .int .u64 (v : Int)] w (DPost w F o L (T + 2) (storeP R t off v) (.tuple #[])) := by
  generalize hpost : DPost w F o L (T + 2) (storeP R t off v) (.tuple #[]) = post
  have c0 := (h.thr t ht).1.cell (o := 0) rfl
  have hw := Lib.hid (word_any h ht hof)
  have hco := counted_any w F o T t (R.isB off) L R h (by omega) ht
  by_cases hm : countB R (R.isB off) = true
  · have hin : off < 64 * R.lines.length ∧ off % 8 = 0 := by
      unfold countB at hm; simp only [Bool.and_eq_true] at hm
      have := hm.1.2
      unfold Dv.isB at this; simp only [decide_eq_true_eq] at this; exact ⟨this.2, this.1⟩
    have e3 : storeP R t off v = putP (countP R t (R.isB off)) off v := by unfold storeP; rw [if_pos hm]
    have elen := (countP_lines R t (R.isB off)).1
    rw [e3] at hpost
    rw [hm] at hco
    replace hpost := Lib.hid hpost
    replace hco := Lib.hid hco
    replace elen := Lib.hid elen
    clear h hm e3
    replace hin := Lib.hid hin
    go_enter Try.func43, Try.ntmps43
    go_wp2_with fail
    refine hw.out.mono ?_
    rintro e w' ⟨rfl, rfl⟩
    go_wp2_with fail
    refine hco.out.mono ?_
    rintro e w1 ⟨F1, rfl, h1, s1⟩
    have hwr := Lib.hid (write_any h1 (by omega) ht (by rw [elen.out]; exact hin.out.1) hin.out.2 hv)
    replace h1 := Lib.hid h1
    go_wp2_with fail
    refine hwr.out.mono ?_
    rintro e w2 ⟨F2, rfl, h2, s2⟩
    have hfin : post (.returned (.tuple #[])) w2 := by rw [← hpost.out]; exact ⟨F2, rfl, h2, s1.trans s2⟩
    replace hfin := Lib.hid hfin
    clear h2 s2
    go_wp2_with fail
    first | exact hfin.out | exact bodyPost_end (results_none rfl _ _ _) rfl hfin.out
  · have hm1 : countB R (R.isB off) = false := by simpa using hm
    have e3 : storeP R t off v = countP R t (R.isB off) := by unfold storeP; rw [if_neg hm]
    rw [e3] at hpost
    rw [hm1] at hco
    replace hpost := Lib.hid hpost
    replace hco := Lib.hid hco
    clear h hm hm1 e3
    go_enter Try.func43, Try.ntmps43
    go_wp2_with fail
    refine hw.out.mono ?_
    rintro e w' ⟨rfl, rfl⟩
    go_wp2_with fail
    refine hco.out.mono ?_
    rintro e w1 ⟨F1, rfl, h1, s1⟩
    have hfin : post (.returned (.tuple #[])) w1 := by rw [← hpost.out]; exact ⟨F1, rfl, h1.up (by omega) hT, s1⟩
    replace hfin := Lib.hid hfin
    clear h1 s1
    go_wp2_with fail
    first | exact hfin.out | exact bodyPost_end (results_none rfl _ _ _) rfl hfin.out
end Go.Proofs.Ytjmdibgncaljaaa.Dev

namespace Go.Proofs.Ytjmdibgncaljaaa.Dev
open Go.RowKit Go.Maps
variable {w : World} {F : Own} {o T : Nat} {L : Lay} {R : Dv}

theorem valueP_count (R : Dv) (t : Nat) (b : Bool) (off : Nat) : valueP (countP R t b) off = valueP R off := by unfold valueP; rw [countP_line]
set_option maxHeartbeats 4000000 in
theorem cas_any (h : DevSt w F o L T R) (hT : T + 2 ≤ 100000) {t off old v : Nat} (ht : t < 8) (hof : off < 18446744073709551616) (hv : v < 18446744073709551616) :
    Calls Try.prog 45 #[.pointer (some ⟨L.tb t, 0, none⟩), .int .u64 (off : Int), .int .u64 (old : Int), .int .u64 (v : Int)] w (DPost w F o L (T + 2) (casP R t off old v) (.bool (casB R off old))) := by
  generalize hpost : DPost w F o L (T + 2) (casP R t off old v) (.bool (casB R off old)) = post
  have c0 := (h.thr t ht).1.cell (o := 0) rfl
  have hw := Lib.hid (word_any h ht hof)
  have hco := counted_any w F o T t (R.isB off) L R h (by omega) ht
  by_cases hm : countB R (R.isB off) = true
  · have hin : off < 64 * R.lines.length ∧ off % 8 = 0 := by
      unfold countB at hm; simp only [Bool.and_eq_true] at hm
      have := hm.1.2
      unfold Dv.isB at this; simp only [decide_eq_true_eq] at this; exact ⟨this.2, this.1⟩
    have elen := (countP_lines R t (R.isB off)).1
    have hvp := valueP_count R t (R.isB off) off
    have e3 : casB R off old = decide (valueP R off = old) := by unfold casB; rw [hm]; rfl
    have e4 : casP R t off old v = if valueP R off = old then putP (countP R t (R.isB off)) off v else countP R t (R.isB off) := by unfold casP; rw [e3]; simp
    rw [hm] at hco
    have hn2 := h.ok.n2
    have ho8I : ((off / 8 : Nat) : Int) < ((R.lines.length * 8 : Nat) : Int) := by omega
    replace hco := Lib.hid hco
    replace elen := Lib.hid elen
    replace hvp := Lib.hid hvp
    clear h hm
    obtain ⟨hin1, hin2⟩ := hin
    replace hin2 := Lib.hid hin2
    by_cases hq : valueP R off = old
    · rw [e3, e4, if_pos hq, decide_eq_true hq] at hpost
      replace hpost := Lib.hid hpost
      clear e3 e4
      replace hq := Lib.hid hq
      go_enter Try.func45, Try.ntmps45
      go_wp2_with fail
      refine hw.out.mono ?_
      rintro e w' ⟨rfl, rfl⟩
      go_wp2_with fail
      refine hco.out.mono ?_
      rintro e w1 ⟨F1, rfl, h1, s1⟩
      have c0 := (h1.thr t ht).1.cell (o := 0) rfl
      have c1 := h1.dev.cell (o := 1) rfl
      have elo := elen.out
      have cc := h1.cur.cellAt (off / 8) (by rw [elo]; omega)
      rw [u64s_get _ _ _ (cur_at h1.ok (by rw [elo]; omega)), hvp.out, hq.out] at cc
      rw [elo] at c1
      replace elo := Lib.hid elo
      have hwr := Lib.hid (write_any h1 (by omega) ht (by rw [elen.out]; exact hin1) hin2.out hv)
      replace h1 := Lib.hid h1
      go_wp2_with fail
      refine hwr.out.mono ?_
      rintro e w2 ⟨F2, rfl, h2, s2⟩
      have hfin : post (.returned (.bool true)) w2 := by rw [← hpost.out]; exact ⟨F2, rfl, h2, s1.trans s2⟩
      replace hfin := Lib.hid hfin
      clear h2 s2
      go_wp2_with fail
      exact hfin.out
    · rw [e3, e4, if_neg hq, decide_eq_false hq] at hpost
      replace hpost := Lib.hid hpost
      clear e3 e4
      have hqI : ((valueP R off : Nat) : Int) ≠ (old : Int) := by omega
      have hqb : (((valueP R off : Nat) : Int) == (old : Int)) = false := by rw [beq_eq_false_iff_ne]; exact hqI
      have hqn : (((valueP R off : Nat) : Int) != (old : Int)) = true := by rw [bne_iff_ne]; exact hqI
      go_enter Try.func45, Try.ntmps45
      go_wp2_with fail
      refine hw.out.mono ?_
      rintro e w' ⟨rfl, rfl⟩
      go_wp2_with fail
      refine hco.out.mono ?_
      rintro e w1 ⟨F1, rfl, h1, s1⟩
      have c0 := (h1.thr t ht).1.cell (o := 0) rfl
      have c1 := h1.dev.cell (o := 1) rfl
      have elo := elen.out
      have cc := h1.cur.cellAt (off / 8) (by rw [elo]; omega)
      rw [u64s_get _ _ _ (cur_at h1.ok (by rw [elo]; omega)), hvp.out] at cc
      rw [elo] at c1
      replace elo := Lib.hid elo
      have hfin : post (.returned (.bool false)) w1 := by rw [← hpost.out]; exact ⟨F1, rfl, h1.up (by omega) hT, s1⟩
      replace hfin := Lib.hid hfin
      replace h1 := Lib.hid h1
      go_wp2_with fail
      exact hfin.out
  · have hm1 : countB R (R.isB off) = false := by simpa using hm
    have e3 : casB R off old = false := by unfold casB; rw [hm1]; rfl
    have e4 : casP R t off old v = countP R t (R.isB off) := by unfold casP; rw [e3]; simp
    rw [e3, e4] at hpost
    rw [hm1] at hco
    replace hpost := Lib.hid hpost
    replace hco := Lib.hid hco
    clear h hm hm1 e3 e4
    go_enter Try.func45, Try.ntmps45
    go_wp2_with fail
    refine hw.out.mono ?_
    rintro e w' ⟨rfl, rfl⟩
    go_wp2_with fail
    refine hco.out.mono ?_
    rintro e w1 ⟨F1, rfl, h1, s1⟩
    have hfin : post (.returned (.bool false)) w1 := by rw [← hpost.out]; exact ⟨F1, rfl, h1.up (by omega) hT, s1⟩
    replace hfin := Lib.hid hfin
    clear h1 s1
    go_wp2_with fail
    exact hfin.out

/-- A region that draws its order, whose operations only read but for the last few, which have one order. -/
theorem region_tail {P : Program} {id : Nat} {Q : Exit → Act → World → Prop} {a : Act} {w : World} {l : List Oper} (n : Nat) (hm : P.follows .mixedOrders = true) (hB : Region.lexTailB .any l.toArray n = true)
    (h : wpStill P l.toArray w.drew (fun a' => wpList P l.toArray Q (l.drop n) a' w.drew) (l.take n) a) : (Code.region id l.toArray true).wp P Q a w :=
  wp_region_still_tail n hm hB h
/-- The first stores of a line have been persisted. -/
theorem DevSt.persisted {w w' : World} {F : Own} {o T i k : Nat} {L : Lay} {R : Dv} (h : DevSt w F o L T R) (hi : i < R.lines.length) (hk : k ≤ (R.line i).hist.length)
    (ho : Only (fun k => k = L.lb ∨ k = L.pb) w w') (hlin : LinSt w' F o L.lb (R.setLine i (persistL (R.line i) k)))
    (hper : w'.ownsRow 0 27 1 (.slice (some ⟨L.pb, 0, none⟩) (R.lines.length * 8) L.pc) (R.lines.length * 8) (u64s (((R.line i).hist.take k).foldl setA R.perW))) :
    DevSt w' F o L T (R.setLine i (persistL (R.line i) k)) := by
  have ne : ∀ {b : Nat} {r : Nat × Nat}, F b = some (o, r) → r ≠ (3, 0) → r ≠ (1, 0) → ¬ (b = L.lb ∨ b = L.pb) := by
    rintro b r hb h3 h2 (rfl | rfl)
    · have := h.fl; rw [hb] at this; cases this; exact h3 rfl
    · have := h.fp; rw [hb] at this; cases this; exact h2 rfl
  have elen : (R.setLine i (persistL (R.line i) k)).lines.length = R.lines.length := setLine_len _ _ _
  refine ⟨persist_ok h.ok hi hk, ?_, h.fg, ?_, h.fp, ?_, h.fc, hlin, h.fl, fun t ht => ?_, fun t ht => ?_⟩
  · have : devCells L (R.setLine i (persistL (R.line i) k)) = devCells L R := by unfold devCells; rw [elen]; rfl
    rw [this]; exact h.dev.only ho (ne h.fg (by simp) (by simp))
  · rw [elen, persistP_per h.ok hi]; exact hper
  · rw [elen, persistP_cur hi hk]; exact ownsRow_only h.cur ho (by rintro b hb; cases hb; exact ne h.fc (by simp) (by simp))
  · obtain ⟨h1, h2⟩ := h.thr t ht; exact ⟨h1.only ho (ne h2 (by simp) (by simp)), h2⟩
  · obtain ⟨h1, h2⟩ := h.nov t ht
    rw [elen]
    exact ⟨h1.only ho (ne h2 (by simp) (by simp)), h2⟩
theorem SubV.shape {w : World} {e : TypeId} {size : Nat} {v : Value} {n : Nat} {xs : List Value} (h : SubV w e size v n xs) : (v = .slice none 0 0 ∧ n = 0) ∨ ∃ b off cap, v = .slice (some ⟨b, off, none⟩) n cap ∧ n ≤ cap ∧ cap ≤ maxLen := by
  rcases h.2 with h1 | ⟨b, off, cap, cur, hv, _, h1, h2, _⟩
  · exact .inl h1
  · exact .inr ⟨b, off, cap, hv, h1, h2⟩

/-- What persist leaves. -/
def PPost (w : World) (F : Own) (o : Nat) (L : Lay) (T : Nat) (R : Dv) (e : Ending) (w' : World) : Prop := e = .returned (.tuple #[]) ∧ DevSt w' F o L T R ∧ Only (fun k => k = L.lb ∨ k = L.pb) w w'
theorem DevSt.pp (h : DevSt w F o L T R) {R' : Dv} {e : Ending} {w' : World} {T' : Nat} (hp : PPost w F o L T' R' e w') : DPost w F o L T' R' (.tuple #[]) e w' :=
  ⟨F, hp.1, hp.2.1, Dstep.mk' hp.2.2 (by
    rintro b (rfl | rfl)
    · exact ⟨_, h.fl⟩
    · exact ⟨_, h.fp⟩)⟩
theorem persist_done (h : DevSt w F o L T R) {i k : Nat} (hi : i < R.lines.length) (hk : k ≤ (R.line i).hist.length) {w1 w3 : World} (hO1 : Only (fun k => k = L.pb) w w1)
    (hown1 : w1.ownsRow 0 27 1 (.slice (some ⟨L.pb, 0, none⟩) (R.lines.length * 8) L.pc) (R.lines.length * 8) (u64s (((R.line i).hist.take k).foldl setA R.perW))) (hO3 : Only (fun k => k = L.lb) w1 w3)
    {cs cs3 : List Value} {hv' : Nat → Value} {v : Value} (hcl : cs.length = R.lines.length * 2)
    (hlin : ∀ j, j < R.lines.length → cs[j * 2]? = some (.int .u64 ((R.line j).done : Int)) ∧ cs[j * 2 + 1]? = some (hv' j) ∧ SubV w 133 2 (hv' j) (R.line j).hist.length (wcells (R.line j).hist) ∧ ∀ k, (hv' j).ownBlock = some k → F k = some (o, 4, j))
    (hL3 : Has w3 L.lb cs3 176) (hcl3 : cs3.length = cs.length) (hcs : ∀ j, j ≠ i * 2 → j ≠ i * 2 + 1 → cs3[j]? = cs[j]?) (hc0 : cs3[i * 2]? = some (.int .u64 (((R.line i).done + k : Nat) : Int))) (hc1 : cs3[i * 2 + 1]? = some v)
    (hsub : SubV w 133 2 v ((R.line i).hist.drop k).length (wcells ((R.line i).hist.drop k))) (hr : ∀ k, v.ownBlock = some k → F k = some (o, 4, i)) :
    PPost w F o L T (R.setLine i (persistL (R.line i) k)) (.returned (.tuple #[])) w3 := by
  have nlp : L.lb ≠ L.pb := Own.ne h.fl h.fp (by simp)
  have hO : Only (fun k => k = L.lb ∨ k = L.pb) w w3 := (hO1.mono (S' := fun k => k = L.lb ∨ k = L.pb) fun _ _ e => Or.inr e).trans' hO3 (fun _ _ e => Or.inl e)
  have hl3 : LinSt w3 F o L.lb (R.setLine i (persistL (R.line i) k)) := by
    refine LinSt.one (S := fun k => k = L.lb ∨ k = L.pb) (w := w) (F := F) (v := v) (hv := hv') (cs := cs) (cs' := cs3) hi hcl hlin hL3 hcl3 hcs hc0 hc1 ?_ hr hO (Ext.refl _ _) ?_
    · refine hsub.only hO ?_
      rintro b hb (rfl | rfl)
      · have := hr _ hb; rw [h.fl] at this; cases this
      · have := hr _ hb; rw [h.fp] at this; cases this
    · rintro b j (rfl | rfl) _ hb
      · rw [h.fl] at hb; cases hb
      · rw [h.fp] at hb; cases hb
  exact ⟨rfl, h.persisted hi hk hO hl3 (ownsRow_only hown1 hO3 (by rintro b hb; cases hb; exact fun e => nlp e.symm)), hO⟩

set_option maxHeartbeats 4000000 in
set_option maxRecDepth 100000 in
theorem persist_any (h : DevSt w F o L T R) {i k : Nat} (hi : i < R.lines.length) (hk : k ≤ (R.line i).hist.length) :
    Calls Try.prog 84 #[.pointer (some ⟨L.g, 0, none⟩), .int .i64 (i : Int), .int .i64 (k : Int)] w (PPost w F o L T (R.setLine i (persistL (R.line i) k))) := by
  generalize hpost : PPost w F o L T (R.setLine i (persistL (R.line i) k)) = post
  replace hpost := Lib.hid hpost
  have hn2 := h.ok.n2
  have d0 := h.dev.cell (o := 0) rfl
  have d2 := h.dev.cell (o := 2) rfl
  obtain ⟨cs, hv', hL, hcl, hlin⟩ := h.lin
  obtain ⟨x0, x1, hsub, hrole⟩ := hlin _ hi
  have hok := h.ok.ln _ hi
  have hhl := hok.hl
  have ht100 := h.ok.t
  have l1 := hL.cell x1
  have hiI : (i : Int) < (R.lines.length : Int) := by omega
  have nlp : L.lb ≠ L.pb := Own.ne h.fl h.fp (by simp)
  have hsh := hsub.shape
  have hperl : R.perW.length = R.lines.length * 8 := by have := h.ok.perLen; omega
  have hps : ∀ p ∈ (R.line i).hist.take k, p.1 / 8 < R.lines.length * 8 ∧ p.1 < 18446744073709551616 ∧ p.2 < 18446744073709551616 := fun p hp => by
    obtain ⟨q1, q2, q3⟩ := hok.h p (List.mem_of_mem_take hp); omega
  have hpl : ((R.line i).hist.take k).length = k := by rw [List.length_take]; omega
  rcases hsh with ⟨hv0, hn0⟩ | ⟨b, bo, cap, hv0, hnc, hcm⟩
  · obtain rfl : k = 0 := by omega
    rw [hv0] at l1
    have hap := apply_any w.drew L.pb L.pc (R.lines.length * 8) R.perW h.per none 0 [] (Rd.nil w) (by intro k hk; cases hk) (by omega) (by simp) (by simp)
    replace hap := Lib.hid hap
    rw [show ((0 : Nat) : Int) = 0 from rfl]
    go_enter Try.func84, Try.ntmps84
    go_wp2_with fail
    refine region_tail 10 (by kernel_rfl) (by kernel_rfl) ?_
    simp only [List.take_succ_cons, List.take_zero, List.drop_succ_cons, List.drop_zero]
    repeat still_step
    refine wpStill_nil ?_
    go_wp2_with fail
    refine hap.out.mono ?_
    rintro e w1 ⟨rfl, hown1, hO1⟩
    have hO1 : Only (fun k => k = L.pb) w w1 := ((Only.refl _ w).drew).trans hO1
    have hL1 := hL.only hO1 nlp
    have k0 := hL1.cell x0
    have k1 := hL1.cell x1
    rw [hv0] at k1
    have f0 := hL1.free (i * 2)
    have f1 := hL1.free (i * 2 + 1)
    have hfin : post (.returned (.tuple #[])) (((w1.setCell ⟨L.lb, i * 2, none⟩ (.int .u64 ((R.line i).done : Int))).setCell ⟨L.lb, i * 2 + 1, none⟩ (.slice none 0 0)).setCell ⟨L.lb, i * 2 + 1, none⟩ (.slice none 0 0)) := by
      rw [← hpost.out]
      have hn : (R.line i).hist = [] := List.eq_nil_of_length_eq_zero hn0
      refine persist_done h hi hk hO1 hown1 (((Only.setAt w1 L.lb (i * 2) _).trans (Only.setAt _ L.lb (i * 2 + 1) _)).trans (Only.setAt _ L.lb (i * 2 + 1) _)) (v := .slice none 0 0) hcl hlin (((hL1.set (i * 2) _).set (i * 2 + 1) _).set (i * 2 + 1) _) (by simp) ?_ ?_ ?_ ?_ (by intro k hk; cases hk)
      · intro j h1 h2; rw [List.getElem?_set_ne (fun e => h2 e.symm), List.getElem?_set_ne (fun e => h2 e.symm), List.getElem?_set_ne (fun e => h1 e.symm)]
      · rw [List.getElem?_set_ne (by omega), List.getElem?_set_ne (by omega), List.getElem?_set_self (by rw [hcl]; omega)]; rfl
      · rw [List.getElem?_set_self (by simp; rw [hcl]; omega)]
      · rw [hn]; exact SubV.nil _ _ _
    replace hfin := Lib.hid hfin
    clear hL1 hO1 hown1 hap hps hpl h hlin hsub
    go_wp2_with fail
    first | exact hfin.out | exact bodyPost_end (results_none rfl _ _ _) rfl hfin.out
  · have hap := apply_any w.drew L.pb L.pc (R.lines.length * 8) R.perW h.per (some ⟨b, bo, none⟩) cap ((R.line i).hist.take k) (by
        rw [hpl]
        have h0 := hsub.rd
        rw [hv0] at h0
        obtain ⟨a, c, e1, h2⟩ := h0
        simp only [Value.slice.injEq, true_and] at e1
        obtain ⟨rfl, rfl⟩ := e1
        refine ⟨_, _, rfl, ?_⟩
        rcases h2 with ⟨h3, _⟩ | ⟨b', o', h3, h4⟩
        · exact .inl ⟨by omega, by rw [List.length_eq_zero_iff.1 (show ((R.line i).hist.take k).length = 0 by omega)]; rfl⟩
        · refine .inr ⟨b', o', h3, fun j u hj => h4 j u ?_⟩
          rw [← wcells_take] at hj
          rw [List.getElem?_take] at hj
          split at hj
          · exact hj
          · cases hj) (by
        rintro k' hk'
        have hb' : b = k' := by simpa [Value.ownBlock] using hk'
        intro e
        have := hrole b (by rw [hv0]; rfl)
        rw [hb', e, h.fp] at this; cases this) (by omega) (by omega) hps
    rw [hpl] at hap
    have hbr : F b = some (o, 4, i) := hrole b (by rw [hv0]; rfl)
    have hnc0 : k ≤ cap := by omega
    have hkI : (k : Int) ≤ 100000 := by omega
    have hkc : (k : Int) ≤ (cap : Int) := by omega
    have hkh : (k : Int) ≤ ((R.line i).hist.length : Int) := by omega
    have hdI : ((R.line i).done : Int) ≤ 100000 := by omega
    unfold maxLen at hcm
    have hcmI : (cap : Int) ≤ 9223372036854775807 := by omega
    by_cases hkl : k < (R.line i).hist.length
    · have hkc2 : ¬ cap = k := by omega
      have hz : (((R.line i).hist.length - k : Nat) == 0) = false := by rw [beq_eq_false_iff_ne]; omega
      have hz2 : (((((R.line i).hist.length - k : Nat)) : Int) == 0) = false := by rw [beq_eq_false_iff_ne]; omega
      rw [hv0] at l1
      replace hap := Lib.hid hap
      go_enter Try.func84, Try.ntmps84
      go_wp2_with fail
      refine region_tail 10 (by kernel_rfl) (by kernel_rfl) ?_
      simp only [List.take_succ_cons, List.take_zero, List.drop_succ_cons, List.drop_zero]
      repeat still_step
      refine wpStill_nil ?_
      go_wp2_with fail
      refine hap.out.mono ?_
      rintro e w1 ⟨rfl, hown1, hO1⟩
      have hO1 : Only (fun k => k = L.pb) w w1 := ((Only.refl _ w).drew).trans hO1
      have hL1 := hL.only hO1 nlp
      have k0 := hL1.cell x0
      have k1 := hL1.cell x1
      rw [hv0] at k1
      have f0 := hL1.free (i * 2)
      have f1 := hL1.free (i * 2 + 1)
      have hfin : post (.returned (.tuple #[])) ((w1.setCell ⟨L.lb, i * 2, none⟩ (.int .u64 (((R.line i).done : Int) + (k : Int)))).setCell ⟨L.lb, i * 2 + 1, none⟩ (.slice (some ⟨b, bo + k * 2, none⟩) ((R.line i).hist.length - k) (cap - k))) := by
        rw [← hpost.out]
        have hs := hsub
        rw [hv0] at hs
        have hs2 := hs.from (k := k) (by omega)
        rw [wcells_drop] at hs2
        refine persist_done h hi hk hO1 hown1 ((Only.setAt w1 L.lb (i * 2) _).trans (Only.setAt _ L.lb (i * 2 + 1) _)) hcl hlin ((hL1.set (i * 2) _).set (i * 2 + 1) _) (by simp) ?_ ?_ (List.getElem?_set_self (by simp; rw [hcl]; omega)) ?_ ?_
        · intro j h1 h2; rw [List.getElem?_set_ne (fun e => h2 e.symm), List.getElem?_set_ne (fun e => h1 e.symm)]
        · rw [List.getElem?_set_ne (by omega), List.getElem?_set_self (by rw [hcl]; omega)]; rfl
        · rw [List.length_drop]; exact hs2
        · intro k' hk'; cases hk'; exact hbr
      replace hfin := Lib.hid hfin
      clear hL1 hO1 hown1 hap hps hpl h hlin hsub
      go_wp2_with fail
      first | exact hfin.out | exact bodyPost_end (results_none rfl _ _ _) rfl hfin.out
    · obtain rfl : k = (R.line i).hist.length := by omega
      generalize hhn : (R.line i).hist.length = hn at *
      have hz : ((hn - hn : Nat) == 0) = true := by rw [beq_iff_eq]; omega
      replace hhn := Lib.hid hhn
      rw [hv0] at l1
      replace hap := Lib.hid hap
      by_cases hkc2 : cap = hn
      · subst hkc2
        go_enter Try.func84, Try.ntmps84
        go_wp2_with fail
        refine region_tail 10 (by kernel_rfl) (by kernel_rfl) ?_
        simp only [List.take_succ_cons, List.take_zero, List.drop_succ_cons, List.drop_zero]
        repeat still_step
        refine wpStill_nil ?_
        go_wp2_with fail
        refine hap.out.mono ?_
        rintro e w1 ⟨rfl, hown1, hO1⟩
        have hO1 : Only (fun k => k = L.pb) w w1 := ((Only.refl _ w).drew).trans hO1
        have hL1 := hL.only hO1 nlp
        have k0 := hL1.cell x0
        have k1 := hL1.cell x1
        rw [hv0] at k1
        have f0 := hL1.free (i * 2)
        have f1 := hL1.free (i * 2 + 1)
        have hfin : post (.returned (.tuple #[])) (((w1.setCell ⟨L.lb, i * 2, none⟩ (.int .u64 (((R.line i).done : Int) + (cap : Int)))).setCell ⟨L.lb, i * 2 + 1, none⟩ (.slice (some ⟨b, bo, none⟩) 0 0)).setCell ⟨L.lb, i * 2 + 1, none⟩ (.slice none 0 0)) := by
          rw [← hpost.out]
          refine persist_done h hi (Nat.le_of_eq hhn.out.symm) hO1 hown1 (((Only.setAt w1 L.lb (i * 2) _).trans (Only.setAt _ L.lb (i * 2 + 1) _)).trans (Only.setAt _ L.lb (i * 2 + 1) _)) (v := .slice none 0 0) hcl hlin (((hL1.set (i * 2) _).set (i * 2 + 1) _).set (i * 2 + 1) _) (by simp) ?_ ?_ ?_ ?_ (by intro k hk; cases hk)
          · intro j h1 h2; rw [List.getElem?_set_ne (fun e => h2 e.symm), List.getElem?_set_ne (fun e => h2 e.symm), List.getElem?_set_ne (fun e => h1 e.symm)]
          · rw [List.getElem?_set_ne (by omega), List.getElem?_set_ne (by omega), List.getElem?_set_self (by rw [hcl]; omega)]; rfl
          · rw [List.getElem?_set_self (by simp; rw [hcl]; omega)]
          · have e0 : (R.line i).hist.drop cap = [] := List.drop_eq_nil_of_le (by have := hhn.out; omega)
            rw [e0]; exact SubV.nil _ _ _
        replace hfin := Lib.hid hfin
        clear hL1 hO1 hown1 hap hps hpl h hlin hsub
        go_wp2_with fail
        first | exact hfin.out | exact bodyPost_end (results_none rfl _ _ _) rfl hfin.out
      · have hkc3 : ¬ cap = hn := hkc2
        go_enter Try.func84, Try.ntmps84
        go_wp2_with fail
        refine region_tail 10 (by kernel_rfl) (by kernel_rfl) ?_
        simp only [List.take_succ_cons, List.take_zero, List.drop_succ_cons, List.drop_zero]
        repeat still_step
        refine wpStill_nil ?_
        go_wp2_with fail
        refine hap.out.mono ?_
        rintro e w1 ⟨rfl, hown1, hO1⟩
        have hO1 : Only (fun k => k = L.pb) w w1 := ((Only.refl _ w).drew).trans hO1
        have hL1 := hL.only hO1 nlp
        have k0 := hL1.cell x0
        have k1 := hL1.cell x1
        rw [hv0] at k1
        have f0 := hL1.free (i * 2)
        have f1 := hL1.free (i * 2 + 1)
        have hfin : post (.returned (.tuple #[])) (((w1.setCell ⟨L.lb, i * 2, none⟩ (.int .u64 (((R.line i).done : Int) + (hn : Int)))).setCell ⟨L.lb, i * 2 + 1, none⟩ (.slice (some ⟨b, bo + hn * 2, none⟩) 0 (cap - hn))).setCell ⟨L.lb, i * 2 + 1, none⟩ (.slice none 0 0)) := by
          rw [← hpost.out]
          refine persist_done h hi (Nat.le_of_eq hhn.out.symm) hO1 hown1 (((Only.setAt w1 L.lb (i * 2) _).trans (Only.setAt _ L.lb (i * 2 + 1) _)).trans (Only.setAt _ L.lb (i * 2 + 1) _)) (v := .slice none 0 0) hcl hlin (((hL1.set (i * 2) _).set (i * 2 + 1) _).set (i * 2 + 1) _) (by simp) ?_ ?_ ?_ ?_ (by intro k hk; cases hk)
          · intro j h1 h2; rw [List.getElem?_set_ne (fun e => h2 e.symm), List.getElem?_set_ne (fun e => h2 e.symm), List.getElem?_set_ne (fun e => h1 e.symm)]
          · rw [List.getElem?_set_ne (by omega), List.getElem?_set_ne (by omega), List.getElem?_set_self (by rw [hcl]; omega)]; rfl
          · rw [List.getElem?_set_self (by simp; rw [hcl]; omega)]
          · have e0 : (R.line i).hist.drop hn = [] := List.drop_eq_nil_of_le (by have := hhn.out; omega)
            rw [e0]; exact SubV.nil _ _ _
        replace hfin := Lib.hid hfin
        clear hL1 hO1 hown1 hap hps hpl h hlin hsub
        go_wp2_with fail
        first | exact hfin.out | exact bodyPost_end (results_none rfl _ _ _) rfl hfin.out
end Go.Proofs.Ytjmdibgncaljaaa.Dev

namespace Go.Proofs.Ytjmdibgncaljaaa.Dev
open Go.RowKit Go.Maps
variable {w : World} {F : Own} {o T : Nat} {L : Lay} {R : Dv}

theorem SubV.slice {w : World} {e : TypeId} {size : Nat} {v : Value} {n : Nat} {xs : List Value} (h : SubV w e size v n xs) : ∃ a c, v = .slice a n c := by
  rcases h.2 with ⟨h1, rfl⟩ | ⟨b, off, cap, cur, hv, _⟩
  · exact ⟨none, 0, h1⟩
  · exact ⟨_, _, hv⟩
set_option maxHeartbeats 4000000 in
theorem back_any (h : DevSt w F o L T R) (l k : Int) :
    Calls Try.prog 40 #[.pointer (some ⟨L.g, 0, none⟩), .int .i64 l, .int .i64 k] w (DPost w F o L T (backP R l k) (.bool (backB R l k))) := by
  generalize hpost : DPost w F o L T (backP R l k) (.bool (backB R l k)) = post
  have d4 := h.dev.cell (o := 11) rfl
  have d2 := h.dev.cell (o := 2) rfl
  have hno : backB R l k = false → post (.returned (.bool false)) w := by
    intro hb
    rw [← hpost]
    refine ⟨F, by rw [hb], ?_, Dstep.refl _ _ _⟩
    unfold backP; rw [hb]; exact h
  cases hoff : R.off with
  | true =>
    rw [hoff] at d4
    have hfin := Lib.hid (hno (by simp [backB, hoff]))
    clear hpost hno hoff h
    go_enter Try.func40, Try.ntmps40
    go_wp2_with fail
    exact hfin.out
  | false =>
    rw [hoff] at d4
    by_cases hl0 : l < 0
    · have hfin := Lib.hid (hno (by unfold backB; rw [decide_eq_false (by omega), Bool.and_false]))
      have e1 : decide (l < 0) = true := decide_eq_true hl0
      clear hpost hno hoff h
      go_enter Try.func40, Try.ntmps40
      go_wp2_with fail
      exact hfin.out
    · have e1 : decide (l < 0) = false := decide_eq_false hl0
      by_cases hln : (R.lines.length : Int) ≤ l
      · have hfin := Lib.hid (hno (by unfold backB; rw [decide_eq_false (by omega), Bool.and_false]))
        clear hpost hno hoff h
        go_enter Try.func40, Try.ntmps40
        go_wp2_with fail
        exact hfin.out
      · obtain ⟨i, rfl⟩ := Int.eq_ofNat_of_zero_le (show 0 ≤ l by omega)
        have hi : i < R.lines.length := by omega
        have hiI : (i : Int) < (R.lines.length : Int) := by omega
        have hi0 : (0 : Int) ≤ (i : Int) := by omega
        by_cases hk0 : k < 0
        · have hfin := Lib.hid (hno (by unfold backB; rw [decide_eq_false (by omega), Bool.and_false]))
          have e2 : decide (k < 0) = true := decide_eq_true hk0
          clear hpost hno hoff h
          go_enter Try.func40, Try.ntmps40
          go_wp2_with fail
          exact hfin.out
        · obtain ⟨q, rfl⟩ := Int.eq_ofNat_of_zero_le (show 0 ≤ k by omega)
          have e2 : decide ((q : Int) < 0) = false := decide_eq_false hk0
          obtain ⟨cs, hv', hL, hcl, hlin⟩ := h.lin
          obtain ⟨x0, x1, hsub, hrole⟩ := hlin _ hi
          have l1 := hL.cell x1
          obtain ⟨a, c, hva⟩ := hsub.slice
          rw [hva] at l1
          by_cases hq : (R.line i).hist.length < q
          · have hfin := Lib.hid (hno (by unfold backB; rw [decide_eq_false (by simp only [Int.toNat_natCast]; omega), Bool.and_false]))
            have hqI : ((R.line i).hist.length : Int) < (q : Int) := by omega
            clear hpost hno hoff h hsub hlin hL hva hrole
            go_enter Try.func40, Try.ntmps40
            go_wp2_with fail
            exact hfin.out
          · have hb : backB R i q = true := by
              unfold backB; rw [decide_eq_true (by simp only [Int.toNat_natCast]; omega), hoff]; rfl
            have hbp : backP R i q = R.setLine i (persistL (R.line i) q) := by unfold backP; rw [if_pos hb]; simp only [Int.toNat_natCast]
            have hp := Lib.hid (persist_any h hi (k := q) (by omega))
            have hfin : ∀ w1, PPost w F o L T (R.setLine i (persistL (R.line i) q)) (.returned (.tuple #[])) w1 → post (.returned (.bool true)) w1 := by
              rintro w1 ⟨_, h1, h2⟩
              rw [← hpost, hb, hbp]
              obtain ⟨F1, _, h3, h4⟩ := h.pp ⟨rfl, h1, h2⟩
              exact ⟨F1, rfl, h3, h4⟩
            have hqI : ¬ ((R.line i).hist.length : Int) < (q : Int) := by omega
            replace hfin := Lib.hid hfin
            clear hpost hno hoff h hsub hlin hL hva hrole hb hbp
            go_enter Try.func40, Try.ntmps40
            go_wp2_with fail
            refine hp.out.mono ?_
            rintro e w1 ⟨rfl, h1, h2⟩
            have hx := Lib.hid (hfin.out w1 ⟨rfl, h1, h2⟩)
            clear h1 h2
            go_wp2_with fail
            exact hx.out

theorem noted_ok (h : R.Ok T) {t l : Nat} (hl : l < R.lines.length) : (notedP R t l).Ok T := by
  have key : ∀ t', t' < 8 → (R.notes.set t (noteL (R.notes.getD t []) l ((R.line l).done + (R.line l).hist.length))).getD t' [] = if t' = t then noteL (R.notes.getD t []) l ((R.line l).done + (R.line l).hist.length) else R.notes.getD t' [] := by
    intro t' ht'
    by_cases e : t' = t
    · subst e; rw [if_pos rfl, List.getD, List.getElem?_set_self (by rw [h.nl]; exact ht')]; rfl
    · rw [if_neg e, List.getD, List.getElem?_set_ne (Ne.symm e)]; rfl
  refine ⟨h.t, h.n1, h.n2, h.ln, by simpa [notedP] using h.nl, fun t' ht' => ?_, fun t' ht' x hx => ?_, h.el, h.ev, h.l1, h.l2, h.x⟩
  · show ((R.notes.set t _).getD t' []).map Prod.fst |>.Nodup
    rw [key t' ht']
    split
    · unfold noteL
      rw [List.map_append, List.nodup_append]
      rename_i e; subst e
      refine ⟨((h.nd t' ht').sublist (List.Sublist.map _ List.filter_sublist)), by simp, ?_⟩
      intro a ha b hb
      simp only [List.map_cons, List.map_nil, List.mem_singleton] at hb
      subst hb
      simp only [List.mem_map, List.mem_filter, decide_eq_true_eq] at ha
      obtain ⟨x, ⟨_, h2⟩, rfl⟩ := ha
      exact h2
    · exact h.nd t' ht'
  · have hx' : x ∈ (R.notes.set t (noteL (R.notes.getD t []) l ((R.line l).done + (R.line l).hist.length))).getD t' [] := hx
    rw [key t' ht'] at hx'
    split at hx'
    · rename_i e; subst e
      unfold noteL at hx'
      simp only [List.mem_append, List.mem_filter, List.mem_singleton] at hx'
      rcases hx' with ⟨h1, _⟩ | rfl
      · exact h.no t' ht' x h1
      · exact ⟨hl, Nat.le_refl _⟩
    · exact h.no t' ht' x hx'
/-- A note has been taken. -/
theorem DevSt.noted {w w' : World} (h : DevSt w F o L T R) {t l : Nat} (ht : t < 8) (hl : l < R.lines.length) (ho : Only (fun k => k = L.nb t) w w')
    (hn : NoteV w' (L.nb t) (T + 1) R.lines.length (fun k => if k = l then some ((R.line l).done + (R.line l).hist.length) else noteF (R.notes.getD t []) k)) (hT : T + 1 ≤ 100000) :
    DevSt w' F o L (T + 1) (notedP R t l) := by
  have hF := (h.nov t ht).2
  have ne : ∀ {b : Nat} {r : Nat × Nat}, F b = some (o, r) → r ≠ (6, t) → ¬ b = L.nb t := fun hb hr => Own.ne hb hF (fun e => hr (by cases e; rfl))
  refine ⟨(noted_ok h.ok hl).up (by omega) hT, h.dev.only ho (ne h.fg (by simp)), h.fg, ownsRow_only h.per ho (by rintro k hk; cases hk; exact ne h.fp (by simp)), h.fp, ownsRow_only h.cur ho (by rintro k hk; cases hk; exact ne h.fc (by simp)), h.fc,
    h.lin.kept h.fl ho (Ext.refl _ _) (fun k s => ⟨fun e => ne e (by simp) s, fun i e => ne e (by simp) s⟩), h.fl, fun t' ht' => ?_, fun t' ht' => ?_⟩
  · obtain ⟨h1, h2⟩ := h.thr t' ht'; exact ⟨h1.only ho (ne h2 (by simp)), h2⟩
  · obtain ⟨h1, h2⟩ := h.nov t' ht'
    refine ⟨?_, h2⟩
    by_cases e : t' = t
    · subst e
      have e1 : (notedP R t' l).notes.getD t' [] = noteL (R.notes.getD t' []) l ((R.line l).done + (R.line l).hist.length) := by
        show (R.notes.set t' _).getD t' [] = _
        rw [List.getD, List.getElem?_set_self (by rw [h.ok.nl]; exact ht')]; rfl
      rw [e1, noteF_noteL]; exact hn
    · have e1 : (notedP R t l).notes.getD t' [] = R.notes.getD t' [] := by
        show (R.notes.set t _).getD t' [] = _
        rw [List.getD, List.getElem?_set_ne (Ne.symm e)]; rfl
      rw [e1]; exact (h1.only ho (ne h2 (by simp [e]))).up (by omega)

set_option maxHeartbeats 4000000 in
set_option maxRecDepth 100000 in
theorem flush_any (h : DevSt w F o L T R) (hT : T + 2 ≤ 100000) {t off : Nat} (ht : t < 8) (hof : off < 18446744073709551616) :
    Calls Try.prog 46 #[.pointer (some ⟨L.tb t, 0, none⟩), .int .u64 (off : Int)] w (DPost w F o L (T + 2) (flushP R t off) (.tuple #[])) := by
  generalize hpost : DPost w F o L (T + 2) (flushP R t off) (.tuple #[]) = post
  have c0 := (h.thr t ht).1.cell (o := 0) rfl
  have hn2 := h.ok.n2
  have hsz := Lib.hid (size_any h)
  have hco := counted_any w F o T t (R.inB off) L R h (by omega) ht
  have hin : R.inB off = decide ((off : Int) < (R.lines.length : Int) * 64) := by unfold Dv.inB; apply decide_eq_decide.2; omega
  by_cases hm : countB R (R.inB off) = true
  · have hio : off < 64 * R.lines.length := by
      unfold countB at hm; simp only [Bool.and_eq_true] at hm
      have := hm.1.2
      unfold Dv.inB at this; simpa using this
    have e3 : flushP R t off = notedP (countP R t (R.inB off)) t (off / 64) := by unfold flushP; rw [if_pos hm]
    have elen := (countP_lines R t (R.inB off)).1
    have elin := countP_line R t (R.inB off) (off / 64)
    have enot := (countP_lines R t (R.inB off)).2
    rw [e3] at hpost
    rw [hm, hin] at hco
    rw [hin] at hpost elen elin enot
    have hok := h.ok.ln (off / 64) (by omega)
    have hhl := hok.hl
    have ht100 := h.ok.t
    replace hpost := Lib.hid hpost
    replace hco := Lib.hid hco
    replace elen := Lib.hid elen
    replace elin := Lib.hid elin
    replace enot := Lib.hid enot
    clear h hm e3 hin hok
    go_enter Try.func46, Try.ntmps46
    go_wp2_with fail
    refine hsz.out.mono ?_
    rintro e w' ⟨rfl, rfl⟩
    go_wp2_with fail
    refine hco.out.mono ?_
    rintro e w1 ⟨F1, rfl, h1, s1⟩
    have elo := elen.out
    have hth := (h1.thr t ht).1
    have c0 := hth.cell (o := 0) rfl
    have c3 := hth.cell (o := 3) rfl
    have d2 := h1.dev.cell (o := 2) rfl
    rw [elo] at d2
    obtain ⟨cs, hv', hL, hcl, hlin⟩ := h1.lin
    obtain ⟨x0, x1, hsub, hrole⟩ := hlin (off / 64) (by rw [elo]; omega)
    obtain ⟨a, c, hva⟩ := hsub.slice
    have l0 := hL.cell x0
    have l1 := hL.cell x1
    rw [hva] at l1
    rw [elin.out] at l0 l1
    obtain ⟨D, hD1, hD2, hD3, hD4, hD5⟩ := (h1.nov t ht).1
    have hkI : ((off / 64 : Nat) : Int) < (R.lines.length : Int) := by omega
    have hdn : ((R.line (off / 64)).done : Int) ≤ 100000 := by omega
    have hhn : ((R.line (off / 64)).hist.length : Int) ≤ 100000 := by omega
    have hfk := hpost.out
    have hod : (off : Int) / 64 = ((off / 64 : Nat) : Int) := by omega
    have hkey := keyOf_int_mk Try.underlying3 (a := (off : Int) / 64) (q := .i64) (P := Try.prog) (by rw [hod]; exact wf_i64 (by omega))
    replace hod := Lib.hid hod
    have hwr0 : IntKind.u64.wrap ((R.line (off / 64)).hist.length : Int) = ((R.line (off / 64)).hist.length : Int) := IntWalk.u64_in _ (by omega)
    have hwr : IntKind.u64.wrap (((R.line (off / 64)).done : Int) + ((R.line (off / 64)).hist.length : Int)) = ((R.line (off / 64)).done : Int) + ((R.line (off / 64)).hist.length : Int) := IntWalk.u64_in _ (by omega)
    have hval := plainElem_int (H := Unit) Try.underlying27 (a := ((R.line (off / 64)).done : Int) + ((R.line (off / 64)).hist.length : Int)) (q := .u64) (P := Try.prog) (by rw [← Int.natCast_add]; exact wf_u64 (by omega))
    replace hfk := Lib.hid hfk
    replace elo := Lib.hid elo
    generalize hhd : (R.line (off / 64)).done = dn at *
    generalize hhh : (R.line (off / 64)).hist.length = hn at *
    replace hhd := Lib.hid hhd
    replace hhh := Lib.hid hhh
    have hD1' : w1.drew.ownsMap Try.prog 3 (plainElem Try.prog 27) (L.nb t) (T + 1) D := hD1
    replace h1 := Lib.hid h1
    replace hva := Lib.hid hva
    clear hlin hsub hrole hL x0 x1 hD1 hth
    go_wp2_with fail
    refine region_tail 16 (by kernel_rfl) (by kernel_rfl) ?_
    simp only [List.take_succ_cons, List.take_zero, List.drop_succ_cons, List.drop_zero]
    repeat still_step
    refine wpStill_nil ?_
    go_wp2_with (at_mapUpdate; refine wpList_mapUpdate_own _ rfl _ _ _ 172 rfl 3 27 key3 Try.underlying172 _ (L.nb t) (T + 1) D rfl hD1' (by unfold maxLen; omega) _ _ _ rfl rfl hkey _ [] hval ?_; intro w6 hown6 hgrow6)
    clear hwr hwr0
    have O6 : Only (fun k => k = L.nb t) w1 w6 := ((Only.refl (fun k => k = L.nb t) w1).drew).trans ((Only.of_grown hgrow6).mono fun k _ e => by simpa using e)
    have hfin : post (.returned (.tuple #[])) w6 := by
      rw [← hfk.out]
      rw [← Int.natCast_add, hod.out] at hown6
      have hNV := NoteV.put (l := off / 64) (n := R.lines.length) (by omega) (by omega) hD2 (by rw [elo.out] at hD3; exact hD3) hD4 hD5 hown6
      have h2 := h1.out.noted (l := off / 64) ht (by rw [elo.out]; omega) O6 (by rw [elo.out, elin.out, hhd.out, hhh.out]; exact hNV) (by omega)
      refine ⟨F1, rfl, h2, s1.trans (Dstep.mk' O6 ?_)⟩
      rintro b rfl
      exact ⟨_, (h1.out.nov t ht).2⟩
    replace hfin := Lib.hid hfin
    clear hown6 hgrow6 O6 s1 hD1' hD3 hD4 hD5
    go_wp2_with fail
    first | exact hfin.out | exact bodyPost_end (results_none rfl _ _ _) rfl hfin.out
  · have hm1 : countB R (R.inB off) = false := by simpa using hm
    have e3 : flushP R t off = countP R t (R.inB off) := by unfold flushP; rw [if_neg hm]
    rw [e3] at hpost
    rw [hm1, hin] at hco
    rw [hin] at hpost
    replace hpost := Lib.hid hpost
    replace hco := Lib.hid hco
    clear h hm hm1 e3 hin
    go_enter Try.func46, Try.ntmps46
    go_wp2_with fail
    refine hsz.out.mono ?_
    rintro e w' ⟨rfl, rfl⟩
    go_wp2_with fail
    refine hco.out.mono ?_
    rintro e w1 ⟨F1, rfl, h1, s1⟩
    have hfin : post (.returned (.tuple #[])) w1 := by rw [← hpost.out]; exact ⟨F1, rfl, h1.up (by omega) hT, s1⟩
    replace hfin := Lib.hid hfin
    clear h1 s1
    go_wp2_with fail
    first | exact hfin.out | exact bodyPost_end (results_none rfl _ _ _) rfl hfin.out
end Go.Proofs.Ytjmdibgncaljaaa.Dev

namespace Go.Proofs.Ytjmdibgncaljaaa.Dev
open Go.RowKit Go.Maps Go.ChangeMaps Go.MapKept Go.WideShapes
variable {w : World} {F : Own} {o T : Nat} {L : Lay} {R : Dv}

/-! ### what a fence makes of the lines, in any order of the notes -/
def fenL (l : Ln) (c : Nat) : Ln := if l.done < c then persistL l (c - l.done) else l
def midLs (R : Dv) (f : Nat → Option Nat) (left : Lit → Bool) : List Ln :=
  (List.range R.lines.length).map fun i => match f i with | none => R.line i | some c => if left (.int .i64 i) then R.line i else fenL (R.line i) c
def midD (R : Dv) (f : Nat → Option Nat) (left : Lit → Bool) : Dv := { R with lines := midLs R f left }
theorem midLs_get (R : Dv) (f : Nat → Option Nat) (left : Lit → Bool) (i : Nat) (h : i < R.lines.length) :
    (midLs R f left)[i]? = some (match f i with | none => R.line i | some c => if left (.int .i64 i) then R.line i else fenL (R.line i) c) := by
  unfold midLs; rw [List.getElem?_map, List.getElem?_range h]; rfl
theorem midD_len (R : Dv) (f : Nat → Option Nat) (left : Lit → Bool) : (midD R f left).lines.length = R.lines.length := by simp [midD, midLs]
theorem midD_line (R : Dv) (f : Nat → Option Nat) (left : Lit → Bool) (i : Nat) (h : i < R.lines.length) (hl : left (.int .i64 i) = true) : (midD R f left).line i = R.line i := by
  unfold Dv.line midD
  rw [getD_of ln0 (midLs_get R f left i h)]
  cases f i with
  | none => rfl
  | some c => simp only [hl, if_true]; rfl
theorem lines_ext {a b : List Ln} (hl : a.length = b.length) (h : ∀ i, i < a.length → a.getD i ln0 = b.getD i ln0) : a = b := by
  apply List.ext_getElem?
  intro i
  rcases Nat.lt_or_ge i a.length with h1 | h1
  · rw [get_of_lt ln0 h1, get_of_lt ln0 (by omega), h i h1]
  · rw [List.getElem?_eq_none h1, List.getElem?_eq_none (by omega)]
theorem midD_start (R : Dv) (f : Nat → Option Nat) (left : Lit → Bool) (h : ∀ l : Nat, (f l).isSome = true → left (.int .i64 l) = true) : midD R f left = R := by
  have e : midLs R f left = R.lines := by
    refine lines_ext (by simp [midLs]) fun i hi => ?_
    have hi' : i < R.lines.length := by simpa [midLs] using hi
    rw [getD_of ln0 (midLs_get R f left i hi')]
    have := h i
    cases hq : f i with
    | none => rfl
    | some c => rw [hq] at this; simp only [this rfl, if_true]; rfl
  unfold midD; rw [e]
theorem midD_step (R : Dv) (f : Nat → Option Nat) (left : Lit → Bool) (k c : Nat) (hk : k < R.lines.length) (hc : f k = some c) :
    midD R f (fun z => left z && !z.sameKey (.int .i64 k)) = (midD R f left).setLine k (fenL (R.line k) c) := by
  have e : midLs R f (fun z => left z && !z.sameKey (.int .i64 k)) = (midLs R f left).set k (fenL (R.line k) c) := by
    apply List.ext_getElem?
    intro l
    by_cases hl : l < R.lines.length
    · rw [midLs_get _ _ _ _ hl, List.getElem?_set]
      by_cases hkl : k = l
      · subst hkl
        rw [if_pos rfl, if_pos (by simp [midLs]; exact hk), hc]
        simp [Go.WideAt.sameKey_self (a := .int .i64 (k : Int)) trivial]
      · rw [if_neg hkl, midLs_get _ _ _ _ hl]
        have : (Lit.int .i64 (l : Int)).sameKey (.int .i64 (k : Int)) = false := sameKey_ne (by intro h; injection h with _ h; omega)
        simp only [this, Bool.not_false, Bool.and_true]
    · rw [List.getElem?_eq_none (by simp [midLs]; omega), List.getElem?_eq_none (by simp [midLs]; omega)]
  unfold midD Dv.setLine; rw [e]
theorem fenceS_eq (ls : List Ln) (x : Nat × Nat) : fenceS ls x = ls.set x.1 (fenL (ls.getD x.1 ln0) x.2) := by
  unfold fenceS fenL
  split
  · rfl
  · rw [set_getD_self]
theorem fold_fence : ∀ (ns : List (Nat × Nat)) (ls : List Ln), (ns.map Prod.fst).Nodup → (∀ x ∈ ns, x.1 < ls.length) →
    (ns.foldl fenceS ls).length = ls.length ∧ ∀ i, i < ls.length → (ns.foldl fenceS ls).getD i ln0 = match noteF ns i with | none => ls.getD i ln0 | some c => fenL (ls.getD i ln0) c
  | [], ls, _, _ => ⟨rfl, fun i _ => rfl⟩
  | x :: ns, ls, hn, hx => by
    rw [List.map_cons, List.nodup_cons] at hn
    obtain ⟨h1, h2⟩ := hn
    rw [List.foldl_cons, fenceS_eq]
    have hx1 := hx x (List.mem_cons_self ..)
    obtain ⟨a, b⟩ := fold_fence ns (ls.set x.1 (fenL (ls.getD x.1 ln0) x.2)) h2 (fun y hy => by simpa using hx y (List.mem_cons_of_mem _ hy))
    refine ⟨by simpa using a, fun i hi => ?_⟩
    rw [b i (by simpa using hi), getD_set _ _ _ _ _ hx1]
    by_cases e : i = x.1
    · subst e
      have e1 : noteF ns x.1 = none := by
        unfold noteF
        rw [List.find?_eq_none.2]; rfl
        intro y hy hd
        simp only [decide_eq_true_eq] at hd
        exact h1 (by rw [← hd]; exact List.mem_map_of_mem hy)
      have e2 : noteF (x :: ns) x.1 = some x.2 := by unfold noteF; simp
      rw [e1, e2]; simp only [if_true]
    · have e2 : noteF (x :: ns) i = noteF ns i := by
        unfold noteF; rw [List.find?_cons, decide_eq_false (fun h => e h.symm)]
      rw [e2]; simp only [if_neg e]
theorem midD_end (h : R.Ok T) {t : Nat} (ht : t < 8) (left : Lit → Bool) (hl : ∀ kl, left kl = false) : midLs R (noteF (R.notes.getD t [])) left = (R.notes.getD t []).foldl fenceS R.lines := by
  obtain ⟨a, b⟩ := fold_fence (R.notes.getD t []) R.lines (h.nd t ht) (fun x hx => (h.no t ht x hx).1)
  refine lines_ext (by rw [a]; simp [midLs]) fun i hi => ?_
  have hi' : i < R.lines.length := by simpa [midLs] using hi
  rw [getD_of ln0 (midLs_get R _ left i hi'), b i hi']
  cases noteF (R.notes.getD t []) i with
  | none => rfl
  | some c => simp only [hl]; rfl
theorem noteF_mem {ns : List (Nat × Nat)} {l c : Nat} (h : noteF ns l = some c) : (l, c) ∈ ns := by
  unfold noteF at h
  cases hq : ns.find? (fun x => decide (x.1 = l)) with
  | none => rw [hq] at h; cases h
  | some x =>
    rw [hq] at h
    have h1 := List.find?_some hq
    have h2 := List.mem_of_find?_eq_some hq
    simp only [decide_eq_true_eq] at h1
    simp only [Option.map_some, Option.some.injEq] at h
    obtain ⟨a, b⟩ := x
    simp only at h1 h; subst h1 h; exact h2
theorem fenL_same (l : Ln) {c : Nat} (h : c ≤ l.done + l.hist.length) : (fenL l c).done + (fenL l c).hist.length = l.done + l.hist.length := by
  unfold fenL
  split
  · simp only [persistL, List.length_drop]; omega
  · rfl
theorem cleared_ok (h : R.Ok T) (t : Nat) : ({ R with notes := R.notes.set t [] } : Dv).Ok T := by
  refine ⟨h.t, h.n1, h.n2, h.ln, by simpa using h.nl, fun t' ht' => ?_, fun t' ht' x hx => ?_, h.el, h.ev, h.l1, h.l2, h.x⟩
  · by_cases e : t' = t
    · subst e; rw [show (R.notes.set t' []).getD t' [] = [] from by rw [List.getD, List.getElem?_set_self (by rw [h.nl]; exact ht')]; rfl]; exact List.nodup_nil
    · rw [show (R.notes.set t []).getD t' [] = R.notes.getD t' [] from by rw [List.getD, List.getElem?_set_ne (Ne.symm e)]; rfl]; exact h.nd t' ht'
  · by_cases e : t' = t
    · subst e; rw [show (R.notes.set t' []).getD t' [] = [] from by rw [List.getD, List.getElem?_set_self (by rw [h.nl]; exact ht')]; rfl] at hx; cases hx
    · rw [show (R.notes.set t []).getD t' [] = R.notes.getD t' [] from by rw [List.getD, List.getElem?_set_ne (Ne.symm e)]; rfl] at hx; exact h.no t' ht' x hx
/-- A thread's notes have been cleared. -/
theorem DevSt.cleared {w w' : World} (h : DevSt w F o L T R) {t : Nat} (ht : t < 8) (ho : Only (fun k => k = L.nb t) w w') (hn : NoteV w' (L.nb t) T R.lines.length (fun _ => none)) :
    DevSt w' F o L T { R with notes := R.notes.set t [] } := by
  have hF := (h.nov t ht).2
  have ne : ∀ {b : Nat} {r : Nat × Nat}, F b = some (o, r) → r ≠ (6, t) → ¬ b = L.nb t := fun hb hr => Own.ne hb hF (fun e => hr (by cases e; rfl))
  refine ⟨cleared_ok h.ok t, h.dev.only ho (ne h.fg (by simp)), h.fg, ownsRow_only h.per ho (by rintro k hk; cases hk; exact ne h.fp (by simp)), h.fp, ownsRow_only h.cur ho (by rintro k hk; cases hk; exact ne h.fc (by simp)), h.fc,
    h.lin.kept h.fl ho (Ext.refl _ _) (fun k s => ⟨fun e => ne e (by simp) s, fun i e => ne e (by simp) s⟩), h.fl, fun t' ht' => ?_, fun t' ht' => ?_⟩
  · obtain ⟨h1, h2⟩ := h.thr t' ht'; exact ⟨h1.only ho (ne h2 (by simp)), h2⟩
  · obtain ⟨h1, h2⟩ := h.nov t' ht'
    refine ⟨?_, h2⟩
    by_cases e : t' = t
    · subst e
      rw [show (({ R with notes := R.notes.set t' [] } : Dv).notes).getD t' [] = [] from by show (R.notes.set t' []).getD t' [] = _; rw [List.getD, List.getElem?_set_self (by rw [h.ok.nl]; exact ht')]; rfl]
      exact hn
    · rw [show (({ R with notes := R.notes.set t [] } : Dv).notes).getD t' [] = R.notes.getD t' [] from by show (R.notes.set t []).getD t' [] = _; rw [List.getD, List.getElem?_set_ne (Ne.symm e)]; rfl]
      exact h1.only ho (ne h2 (by simp [e]))

theorem run_clear {H : Type} {P : Program} {w : World} {k e t : TypeId} {R : Value → Option (DataW H × List MemPlace)} {b n : Nat} {D : DataW H} (ty : TypeId) (h : w.ownsMap P k R b n D) (ht : P.underlying t = some (.map k e)) :
    ∃ w', (Builtin.clear_ #[t] ty #[.map (some b)]).run P w = .ok (.tuple #[]) w' ∧ w'.ownsMap P k R b 0 (.map []) ∧ Only (fun j => j = b) w w' := by
  obtain ⟨es, clock, hb, F, hs, rfl⟩ := h
  refine ⟨setBlock w b (.map #[] clock), ?_, ⟨#[], clock, heap_setBlock_same hb _, ⟨by simp, ?_, by simp⟩, by simp, rfl⟩, ⟨rfl, rfl, rfl, by simp [setBlock], fun j hj hne => heap_setBlock_other hb _ hne⟩⟩
  · have h1 := MapKept.run_getObj_map (P := P) hb
    have h2 := MapKept.run_setObj_map (P := P) (.map #[] clock) hb
    simp [Builtin.clear_, run_underlying ht, h1, h2, setBlock]
  · exact stamped_empty clock
theorem wpList_clear {H : Type} {P : Program} {w : World} {ops : Array Oper} {rest : List Oper} {o : Oper} {a : Act} {Q : Exit → Act → World → Prop} (hgd : o.guard = none) (x : Operand) (t k e : TypeId)
    (ho : o.op = .call { callee := .builtin .clear, args := #[x], argTypes := #[t] }) (R : Value → Option (DataW H × List MemPlace)) (b n : Nat) (D : DataW H) (hx : a.eval x = .map (some b)) (hown : w.ownsMap P k R b n D) (ht : P.underlying t = some (.map k e))
    (h : ∀ w', w'.ownsMap P k R b 0 (.map []) → Only (fun j => j = b) w w' → wpList P ops Q rest (a.put o.dst (.tuple #[])) w') : wpList P ops Q (o :: rest) a w := by
  refine wpList_plain hgd fun K hK => ?_
  obtain ⟨w', hr, h2, h3⟩ := run_clear (P := P) o.type hown ht
  unfold Oper.wp execOp
  simp only [ho, resolve, invoke, builtin, Sem.run_bind, Sem.run_pure, Result.andThen_ok, List.map_toArray, List.map_cons, List.map_nil, hx, hr]
  exact hK _ _ (h w' h2 h3)
theorem ranges_only {H : Type} {P : Program} {k : TypeId} {Rr : Value → Option (DataW H × List MemPlace)} {w w' : World} {b r n : Nat} {D : DataW H} {left : Lit → Bool} {cnt : Nat} {S : Nat → Prop} (h : w.ranges P k Rr b r n D left cnt) (ho : Only S w w') (hb : ¬ S b) (hr : ¬ S r) :
    w'.ranges P k Rr b r n D left cnt ∧ w'.rangeLeft b r = w.rangeLeft b r := by
  have h1 := h.owns.lt
  have h2 := h.lt
  have e1 := ho.block b h1 hb
  have e2 := ho.block r h2 hr
  refine ⟨?_, by unfold World.rangeLeft; rw [e1, e2]⟩
  obtain ⟨es, clock, since, seen, c0, hb', F, hs, hD, hr', rest⟩ := h
  exact ⟨es, clock, since, seen, c0, e1.trans hb', F, hs, hD, e2.trans hr', rest⟩
end Go.Proofs.Ytjmdibgncaljaaa.Dev

namespace Go.Proofs.Ytjmdibgncaljaaa.Dev
open Go.RowKit Go.Maps
variable {w : World} {F : Own} {o T : Nat} {L : Lay} {R : Dv}

def FRel (w : World) (F : Own) (o T : Nat) (L : Lay) (R : Dv) (t : Nat) (D : DataW Unit) (wr : World) : Prop :=
  ∃ (left : Lit → Bool) (cnt : Nat), wr.ranges Try.prog 3 (plainElem Try.prog 27) (L.nb t) w.heap.size T D left cnt ∧ (∀ kl, left kl = true → has D kl = true) ∧
    DevSt wr F o L T (midD R (noteF (R.notes.getD t [])) left) ∧ Only (fun k => k = L.lb ∨ k = L.pb) w wr
set_option maxHeartbeats 4000000 in
set_option maxRecDepth 100000 in
theorem fence_any (h : DevSt w F o L T R) (hT : T + 1 ≤ 100000) {t : Nat} (ht : t < 8) :
    Calls Try.prog 48 #[.pointer (some ⟨L.tb t, 0, none⟩)] w (DPost w F o L (T + 1) (fenceP R t) (.tuple #[])) := by
  generalize hpost : DPost w F o L (T + 1) (fenceP R t) (.tuple #[]) = post
  have c0 := (h.thr t ht).1.cell (o := 0) rfl
  have hco := counted_any w F o T t true L R h (by omega) ht
  have hn2 := h.ok.n2
  by_cases hm : countB R true = true
  · have e3 : fenceP R t = fencedP (countP R t true) t := by unfold fenceP; rw [if_pos hm]
    have elen := (countP_lines R t true).1
    rw [e3] at hpost
    rw [hm] at hco
    have elen2 : (countP R t true).lines.length = R.lines.length := by rw [elen]
    have ht100 := h.ok.t
    generalize countP R t true = Q at *
    replace hco := Lib.hid hco
    clear h hm e3 elen
    have hnI := elen2
    replace elen2 := Lib.hid elen2
    clear hnI
    go_enter Try.func48, Try.ntmps48
    go_wp2_with fail
    refine hco.out.mono ?_
    rintro e wq ⟨F0, rfl, h0, s0⟩
    obtain ⟨F1, h1, s1, hFb⟩ : ∃ F1, DevSt wq F1 o L (T + 1) Q ∧ Dstep w F o wq F1 ∧ ∀ k, wq.heap.size ≤ k → F1 k = none := by
      have hx : Ext wq F0 (fun k => if k < wq.heap.size then F0 k else none) := fun k hk => if_pos hk
      exact ⟨_, h0.kept (Only.refl (fun _ => False) _) hx (fun _ _ s => s.elim), s0.trans ⟨hx, Only.refl _ _⟩, fun k hk => if_neg (by omega)⟩
    clear h0 s0
    have c0 := (h1.thr t ht).1.cell (o := 0) rfl
    have c3 := (h1.thr t ht).1.cell (o := 3) rfl
    obtain ⟨D, hD1, hD2, hD3, hD4, hD5⟩ := (h1.nov t ht).1
    have hok := h1.ok
    have hbl := hD1.lt
    replace hpost := Lib.hid hpost
    have hrel0 : ∀ w0, w0.ranges Try.prog 3 (plainElem Try.prog 27) (L.nb t) wq.heap.size (T + 1) D (Maps.has D) (Maps.size D) → wq.grownBy w0 none → FRel wq F1 o (T + 1) L Q t D w0 := by
      intro w0 hrg hg
      have hO0 : Only (fun _ => False) wq w0 := (Only.of_grown hg).mono fun k _ e => by cases e
      refine ⟨_, _, hrg, fun _ h => h, ?_, hO0.mono fun _ _ s => s.elim⟩
      rw [midD_start Q _ _ (fun l hl => by rw [hD4]; exact hl)]
      exact h1.kept hO0 (Ext.refl _ _) (fun _ _ s => s.elim)
    have hnbl : L.nb t ≠ L.lb ∧ L.nb t ≠ L.pb := ⟨Own.ne (h1.nov t ht).2 h1.fl (by simp), Own.ne (h1.nov t ht).2 h1.fp (by simp)⟩
    have hszl : L.lb < wq.heap.size ∧ L.pb < wq.heap.size := ⟨by obtain ⟨cs, hv, h5, _⟩ := h1.lin; exact h5.lt, ownsRow_lt h1.per rfl⟩
    have hnF := (h1.nov t ht).2
    have hPF : ∀ b, b = L.lb ∨ b = L.pb → Mine F1 o b := by
      rintro b (rfl | rfl)
      · exact ⟨_, h1.fl⟩
      · exact ⟨_, h1.fp⟩
    replace hrel0 := Lib.hid hrel0
    clear h1
    go_wp2_with (at_range; refine wpList_range_own _ rfl _ 172 rfl 3 27 key3 Try.underlying172 _ (L.nb t) (T + 1) D rfl hD1 ?_; intro w0 hrg0 hg0 hs0)
    go_frame
    go_loopw [2] (fun _ wr => FRel wq F1 o (T + 1) L Q t D wr) (fun _ wr => wr.rangeLeft (L.nb t) wq.heap.size)
    case atStart => exact hrel0.out _ hrg0 hg0
    case round =>
      obtain ⟨left, cnt, hrg, hsub, hD, hO⟩ := hrel
      have c0 := (hD.thr t ht).1.cell (o := 0) rfl
      have c3 := (hD.thr t ht).1.cell (o := 3) rfl
      have d2 := hD.dev.cell (o := 2) rfl
      replace hD := Lib.hid hD
      go_wp2_with (at_next; refine wpList_next_ranges_ii _ rfl _ rfl 3 27 .i64 .u64 key3 Try.underlying3 Try.underlying27 (L.nb t) wq.heap.size (T + 1) _ _ _ rfl hrg ?_ ?_)
      · intro _ hl0
        have hown := hrg.owns
        have hfin : ∀ w6, w6.ownsMap Try.prog 3 (plainElem (H := Unit) Try.prog 27) (L.nb t) 0 (.map []) → Only (fun j => j = L.nb t) wr w6 → post (.returned (.tuple #[])) w6 := by
          intro w6 hown6 only6
          rw [← hpost.out]
          have hc := hD.out.cleared ht only6 (NoteV.none hown6)
          have e : ({ midD Q (noteF (Q.notes.getD t [])) left with notes := (midD Q (noteF (Q.notes.getD t [])) left).notes.set t [] } : Dv) = fencedP Q t := by
            unfold fencedP midD
            rw [midD_end hok ht left hl0]
          rw [e] at hc
          refine ⟨F1, rfl, hc, s1.trans ((Dstep.mk' hO hPF).trans (Dstep.mk' only6 ?_))⟩
          rintro b rfl
          exact ⟨_, hnF⟩
        replace hfin := Lib.hid hfin
        go_wp2_with (refine wpList_clear rfl (.tmp 56) 172 3 27 rfl _ (L.nb t) (T + 1) D rfl hown Try.underlying172 ?_; intro w6 hown6 only6)
        have hx := hfin.out w6 hown6 only6
        first | exact hx | exact bodyPost_end (results_none rfl _ _ _) rfl hx
      · intro x c w1 cnt1 hwx hwc hlx hat hrg1 hlt1 hg1 hs1 hen
        obtain ⟨k, hk, hxk⟩ := hD3 _ (hsub _ hlx)
        simp only [Lit.int.injEq, true_and] at hxk
        subst hxk
        obtain ⟨c', hc'⟩ : ∃ c', noteF (Q.notes.getD t []) k = some c' := by
          have := hD4 k
          rw [hsub _ hlx] at this
          exact Option.isSome_iff_exists.1 this.symm
        have hcc : c = (c' : Int) := by
          have h1 := hat (.lit (.int .i64 0))
          rw [hD5 k c' hc'] at h1
          simp only [DataW.lit.injEq, Lit.int.injEq, true_and] at h1
          exact h1.symm
        subst hcc
        obtain ⟨_, hcle⟩ := hok.no t ht _ (noteF_mem hc')
        simp only at hcle
        have hkl := (hok.ln k hk).hl
        have hO1r : Only (fun j => j = wq.heap.size) wr w1 := (Only.of_grown hg1).mono fun j _ e => by simpa using e
        have hwrs := hO.size
        have hD1 : DevSt w1 F1 o L (T + 1) (midD Q (noteF (Q.notes.getD t [])) left) := by
          refine DevSt.kept hD.out hO1r (Ext.refl _ _) (fun k r s e => ?_)
          rw [hFb k (by omega)] at e; cases e
        have hO1 : Only (fun k => k = L.lb ∨ k = L.pb) wq w1 := hO.trans' hO1r (fun j hj e => by omega)
        have hml := midD_line Q (noteF (Q.notes.getD t [])) left k hk hlx
        have hlen := midD_len Q (noteF (Q.notes.getD t [])) left
        have hstep := midD_step Q (noteF (Q.notes.getD t [])) left k c' hk hc'
        have c0' := (hD1.thr t ht).1.cell (o := 0) rfl
        have d2' := hD1.dev.cell (o := 2) rfl
        rw [hlen] at d2'
        obtain ⟨cs, hv', hL, hcl, hlin⟩ := hD1.lin
        obtain ⟨x0, x1, hsub1, hrole⟩ := hlin k (by rw [hlen]; exact hk)
        have l0 := hL.cell x0
        rw [hml] at l0
        have hkI : (k : Int) < (Q.lines.length : Int) := by omega
        have hdI : ((Q.line k).done : Int) ≤ 100000 := by omega
        have hcI : (c' : Int) ≤ 100000 := by omega
        have hpe : (Q.line k).done < c' → Calls Try.prog 84 #[.pointer (some ⟨L.g, 0, none⟩), .int .i64 (k : Int), .int .i64 ((c' : Int) - ((Q.line k).done : Int))] w1 (PPost w1 F1 o L (T + 1) (midD Q (noteF (Q.notes.getD t [])) (fun z => left z && !z.sameKey (.int .i64 k)))) := by
          intro hlt
          have := persist_any hD1 (i := k) (k := c' - (Q.line k).done) (by rw [hlen]; exact hk) (by rw [hml]; omega)
          rw [hml] at this
          rw [hstep]
          unfold fenL
          rw [if_pos hlt]
          rw [show ((c' : Int) - ((Q.line k).done : Int)) = ((c' - (Q.line k).done : Nat) : Int) from by omega]
          exact this
        have hrelN : ∀ w2, DevSt w2 F1 o L (T + 1) (midD Q (noteF (Q.notes.getD t [])) (fun z => left z && !z.sameKey (.int .i64 k))) → Only (fun k => k = L.lb ∨ k = L.pb) w1 w2 → FRel wq F1 o (T + 1) L Q t D w2 ∧ w2.rangeLeft (L.nb t) wq.heap.size < wr.rangeLeft (L.nb t) wq.heap.size := by
          intro w2 h2 o2
          obtain ⟨r1, r2⟩ := ranges_only hrg1 o2 (by rintro (e | e); exact hnbl.1 e; exact hnbl.2 e) (by omega)
          refine ⟨⟨_, cnt1, r1, fun kl h => hsub kl (by simp at h; exact h.1), h2, hO1.trans o2⟩, ?_⟩
          rw [r1.left_eq, hrg.left_eq]; exact hlt1
        have hno : ¬ (Q.line k).done < c' → midD Q (noteF (Q.notes.getD t [])) (fun z => left z && !z.sameKey (.int .i64 k)) = midD Q (noteF (Q.notes.getD t [])) left := by
          intro hlt
          rw [hstep]; unfold fenL; rw [if_neg hlt, ← hml]; unfold Dv.setLine Dv.line; rw [set_getD_self]
        replace hrelN := Lib.hid hrelN
        clear hlin hsub1 hrole hL x0 x1 hstep hat hD3 hD4 hD5 hsub hlx hwx hwc hc' hg1 hrg1 c0 c3 d2 hO1r hcl
        generalize hdd : (Q.line k).done = dn at *
        by_cases hlt : dn < c'
        · have hp := Lib.hid (hpe hlt)
          have hltI : (dn : Int) < (c' : Int) := by omega
          clear hpe hno hml hlen hD1 hdd hpost
          go_wp2_with fail
          refine hp.out.mono ?_
          rintro e w2 ⟨rfl, h2, o2⟩
          have hx := Lib.hid (hrelN.out w2 h2 o2)
          clear h2 o2
          go_wp2_with fail
          go_roundw
          case rel => exact hx.out.1
          case measure => exact hx.out.2
        · have h2 := hD1
          rw [← hno hlt] at h2
          have hx := Lib.hid (hrelN.out w1 h2 (Only.refl _ _))
          have hltI : ¬ (dn : Int) < (c' : Int) := by omega
          clear hpe hno hml hlen hD1 hdd hpost h2
          go_wp2_with fail
          go_roundw
          case rel => exact hx.out.1
          case measure => exact hx.out.2
  · have hm1 : countB R true = false := by simpa using hm
    have e3 : fenceP R t = countP R t true := by unfold fenceP; rw [if_neg hm]
    rw [e3] at hpost
    rw [hm1] at hco
    replace hpost := Lib.hid hpost
    replace hco := Lib.hid hco
    clear h hm hm1 e3
    go_enter Try.func48, Try.ntmps48
    go_wp2_with fail
    refine hco.out.mono ?_
    rintro e w1 ⟨F1, rfl, h1, s1⟩
    have hfin : post (.returned (.tuple #[])) w1 := by rw [← hpost.out]; exact ⟨F1, rfl, h1, s1⟩
    replace hfin := Lib.hid hfin
    clear h1 s1
    go_wp2_with fail
    first | exact hfin.out | exact bodyPost_end (results_none rfl _ _ _) rfl hfin.out
end Go.Proofs.Ytjmdibgncaljaaa.Dev
