/- The program's device: counted, Lines, Size, word. -/
import Derived.Test.YtikjpklbbjmioaaD3
namespace Go.Proofs.Ytikjpklbbjmioaa
open Go.RowKit Go.Maps

set_option maxHeartbeats 2000000 in
theorem counted_any (w : World) (F : Own) (o T t : Nat) (b : Bool) (L : Lay) (R : Dv) (h : DevSt w F o L T R) (hT : T + 1 ≤ 100000) (ht : t < 8) :
    Calls Try.prog 45 #[.pointer (some ⟨L.tb t, 0, none⟩), .bool b] w (DPost w F o L (T + 1) (countP R t b) (.bool (countB R b))) := by
  generalize hpost : DPost w F o L (T + 1) (countP R t b) (.bool (countB R b)) = post
  have hon := on_any w F o T t b L R h ht
  by_cases hm : mayB R b = false
  · have e1 : countB R b = false := by
      unfold mayB at hm; unfold countB; rw [hm]; rfl
    have e2 : countP R t b = mayP R t b := by
      unfold countP mayP
      cases hoff : R.off with
      | true => rfl
      | false => cases b with
        | true => simp [mayB, hoff] at hm
        | false => rfl
    rw [e1, e2] at hpost
    rw [hm] at hon
    have hg : ∀ w1, DPost w F o L T (mayP R t b) (.bool false) (.returned (.bool false)) w1 → post (.returned (.bool false)) w1 := by
      rintro w1 ⟨F1, _, h1, s1⟩
      rw [← hpost]
      exact ⟨F1, rfl, h1.up (by omega) hT, s1⟩
    replace hg := Lib.hid hg
    replace hon := Lib.hid hon
    clear hpost e1 e2 hm h
    go_enter Try.func45, Try.ntmps45
    go_wp2_with fail
    refine hon.out.mono ?_
    rintro e w1 ⟨F1, rfl, h1, s1⟩
    have hx := hg.out w1 ⟨F1, rfl, h1, s1⟩
    replace hx := Lib.hid hx
    clear h1 s1 hg hon
    go_wp2_with fail
    exact hx.out
  · have hm1 : mayB R b = true := by simpa using hm
    have hoff : R.off = false := by
      unfold mayB at hm1; cases hq : R.off with
      | true => rw [hq] at hm1; simp at hm1
      | false => rfl
    have hb : b = true := by
      unfold mayB at hm1; cases b with
      | true => rfl
      | false => simp at hm1
    subst hb
    have em : mayP R t true = R := by simp [mayP, hoff]
    rw [hm1, em] at hon
    have l1 := h.ok.l1
    have l2 := h.ok.l2
    have hex := h.ok.x
    by_cases hz : R.left = 0
    · have e1 : countB R true = false := by simp [countB, hz]
      have e2 : countP R t true = failP { R with off := true } t 3 := by simp [countP, hoff, hz]
      rw [e1, e2] at hpost
      have okO := off_ok h.ok
      replace hpost := Lib.hid hpost
      replace hon := Lib.hid hon
      clear h e1 e2 em hm hm1 hoff
      go_enter Try.func45, Try.ntmps45
      go_wp2_with fail
      refine hon.out.mono ?_
      rintro e w1 ⟨F1, rfl, h1, s1⟩
      have c0 := (h1.thr t ht).1.cell (o := 0) rfl
      have d5 := h1.dev.cell (o := 12) rfl
      have d6 := h1.dev.cell (o := 13) rfl
      have f4 := h1.dev.free 11
      have d4 := h1.dev.cell (o := 11) rfl
      rw [hz] at d5 d6
      have hA := Only.setAt w1 L.g 11 (.bool true)
      have hset := h1.dev.set 11 (.bool true)
      have hD : DevSt (w1.setCell ⟨L.g, 11, none⟩ (.bool true)) F1 o L T { R with off := true } := h1.re hA (by simpa [devCells] using hset) rfl rfl rfl okO (Nat.le_refl _)
      have hS := s1.set (a := ⟨L.g, 11, none⟩) h1.fg (.bool true)
      have hf := fail_any _ F1 o T t 3 L _ hD ht (.inr rfl)
      have c0' := (hD.thr t ht).1.cell (o := 0) rfl
      replace hf := Lib.hid hf
      replace hS := Lib.hid hS
      clear hD hset hA h1 s1
      replace hz := Lib.hid hz
      go_wp2_with fail
      refine hf.out.mono ?_
      rintro e w2 ⟨F2, rfl, h2, s2⟩
      go_wp2_with fail
      rw [← hpost.out]
      exact ⟨F2, rfl, h2.up (by omega) hT, hS.out.trans s2⟩
    · have e1 : countB R true = true := by simp [countB, hoff, hz]
      have e2 : countP R t true = { R with left := (if 0 < R.left then R.left - 1 else R.left), exe := R.exe + 1 } := by simp [countP, hoff, hz]
      rw [e1, e2] at hpost
      have okS := step_ok h.ok hT
      replace hpost := Lib.hid hpost
      replace hon := Lib.hid hon
      clear h e1 e2 em hm hm1 hoff
      go_enter Try.func45, Try.ntmps45
      go_wp2_with fail
      refine hon.out.mono ?_
      rintro e w1 ⟨F1, rfl, h1, s1⟩
      have c0 := (h1.thr t ht).1.cell (o := 0) rfl
      have d5 := h1.dev.cell (o := 12) rfl
      have d6 := h1.dev.cell (o := 13) rfl
      have f6 := h1.dev.free 13
      by_cases hp : 0 < R.left
      · have q1 : decide (0 ≤ R.left) = true := decide_eq_true (by omega)
        have q2 : max R.left 0 = R.left := by omega
        have q3 : decide (0 ≤ R.left - 1) = true := decide_eq_true (by omega)
        have q4 : max (R.left - 1) 0 = R.left - 1 := by omega
        have q5 : (R.left == 0) = false := by rw [beq_eq_false_iff_ne]; exact hz
        rw [q1] at d5
        rw [q2] at d6
        rw [if_pos hp] at okS hpost
        have hs1 := h1.dev.set 13 (.int .i64 (R.left - 1))
        have d7 := hs1.cell (o := 14) rfl
        have f7 := hs1.free 14
        have hs2 := hs1.set 14 (.int .u64 ((R.exe : Int) + 1))
        have hA := (Only.setAt w1 L.g 13 (.int .i64 (R.left - 1))).trans (Only.setAt _ L.g 14 (.int .u64 ((R.exe : Int) + 1)))
        have hD := h1.re hA (R' := { R with left := R.left - 1, exe := R.exe + 1 }) (by rw [show devCells L { R with left := R.left - 1, exe := R.exe + 1 } = ((devCells L R).set 13 (.int .i64 (R.left - 1))).set 14 (.int .u64 ((R.exe : Int) + 1)) from by simp only [devCells, List.set_cons_succ, List.set_cons_zero, q1, q3, q4]; rfl]; exact hs2) rfl rfl rfl okS (by omega)
        have hS := (s1.set (a := ⟨L.g, 13, none⟩) h1.fg (.int .i64 (R.left - 1))).set (a := ⟨L.g, 14, none⟩) h1.fg (.int .u64 ((R.exe : Int) + 1))
        have hfin : post (.returned (.bool true)) ((w1.setCell ⟨L.g, 13, none⟩ (.int .i64 (R.left - 1))).setCell ⟨L.g, 14, none⟩ (.int .u64 ((R.exe : Int) + 1))) := by
          rw [← hpost.out]; exact ⟨F1, rfl, hD, hS⟩
        replace hfin := Lib.hid hfin
        clear hs1 hs2 hA hD hS h1 s1 q1 q2 q3 q4 hpost okS hon
        generalize R.left = lf at *
        generalize R.exe = ex at *
        have hex2 : (ex : Int) ≤ 100000 := by omega
        go_wp2_with fail
        exact hfin.out
      · have q0 : R.left = -1 := by omega
        have q1 : decide (0 ≤ R.left) = false := decide_eq_false (by omega)
        rw [q1] at d5
        rw [if_neg hp] at okS hpost
        have d7 := h1.dev.cell (o := 14) rfl
        have f7 := h1.dev.free 14
        have hs2 := h1.dev.set 14 (.int .u64 ((R.exe : Int) + 1))
        have hA := (Only.setAt w1 L.g 14 (.int .u64 ((R.exe : Int) + 1)))
        have hD := h1.re hA (R' := { R with left := R.left, exe := R.exe + 1 }) (by rw [show devCells L { R with left := R.left, exe := R.exe + 1 } = (devCells L R).set 14 (.int .u64 ((R.exe : Int) + 1)) from by simp only [devCells, List.set_cons_succ, List.set_cons_zero]; rfl]; exact hs2) rfl rfl rfl okS (by omega)
        have hS := s1.set (a := ⟨L.g, 14, none⟩) h1.fg (.int .u64 ((R.exe : Int) + 1))
        have hfin : post (.returned (.bool true)) (w1.setCell ⟨L.g, 14, none⟩ (.int .u64 ((R.exe : Int) + 1))) := by
          rw [← hpost.out]; exact ⟨F1, rfl, hD, hS⟩
        replace hfin := Lib.hid hfin
        clear hs2 hA hD hS h1 s1 q1 q0 hpost okS hon d6
        generalize R.exe = ex at *
        have hex2 : (ex : Int) ≤ 100000 := by omega
        go_wp2_with fail
        exact hfin.out
end Go.Proofs.Ytikjpklbbjmioaa
