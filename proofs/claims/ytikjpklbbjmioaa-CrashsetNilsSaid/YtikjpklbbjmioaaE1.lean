/- The reference's device: fail, may, counted, Is, Arm. -/
import Derived.Test.YtikjpklbbjmioaaD3
namespace Go.Proofs.Ytikjpklbbjmioaa
open Go.RowKit Go.Maps
variable {w : World} {F : Own} {o h T : Nat} {R : Dv}

theorem RefSt.re {w w' : World} {T' : Nat} {R' : Dv} (hr : RefSt w F o h T R) (ho : Only (fun k => k = h) w w') (hd : ∀ lb lc ns, Has w h (refCells lb lc ns R) 110 → Has w' h (refCells lb lc ns R') 110) (hl : R'.lines = R.lines) (hn : R'.notes = R.notes) (hk : R'.Ok T') :
    RefSt w' F o h T' R' := by
  obtain ⟨lb, lc, ns, h1, h2, h3, h4⟩ := hr.ex
  have ne : ∀ {b : Nat} {r : Nat × Nat}, F b = some (o, r) → r ≠ (0, 0) → ¬ b = h := fun hb hr' => Own.ne hb hr.fh (fun e => hr' (by cases e; rfl))
  have e4 : ∀ i, R'.line i = R.line i := fun i => by unfold Dv.line; rw [hl]
  refine ⟨hk, ⟨lb, lc, ns, hd _ _ _ h1, ?_, h3, fun t ht => ?_⟩, hr.fh⟩
  · have := h2.kept h3 ho (Ext.refl w F) (fun k s => ⟨fun e => ne e (by simp) s, fun i e => ne e (by simp) s⟩)
    unfold RLinSt at *
    simp only [hl, e4]; exact this
  · rw [hn]; exact (h4 t ht).kept ho (Ext.refl w F) (fun k s e => ne e (by simp) s)
theorem refCells_setErr (lb lc : Nat) (ns : Nat → Value) (R : Dv) (t e : Nat) (ht : t < 8) (hl : R.errs.length = 8) : refCells lb lc ns { R with errs := R.errs.set t e } = (refCells lb lc ns R).set (9 + t) (.int .i64 (e : Int)) := by
  have g : ∀ j, (R.errs.set t e).getD j 0 = if j = t then e else R.errs.getD j 0 := fun j => getD_set _ _ _ _ _ (by omega)
  unfold refCells
  simp only [g]
  match t, ht with
  | 0, _ | 1, _ | 2, _ | 3, _ | 4, _ | 5, _ | 6, _ | 7, _ => rfl
theorem err_lt (hk : R.Ok T) (t : Nat) : R.errs.getD t 0 ≤ 3 := by
  by_cases ht : t < 8
  · have := hk.ev _ (mem_getD 0 (show t < R.errs.length by rw [hk.el]; exact ht)); omega
  · rw [List.getD, List.getElem?_eq_none (by rw [hk.el]; omega)]; show (0 : Nat) ≤ 3; omega

set_option maxHeartbeats 1000000 in
theorem rfail_any (hr : RefSt w F o h T R) {t e : Nat} (ht : t < 8) (he : e = 2 ∨ e = 3) :
    Calls Try.prog 100 #[.pointer (some ⟨h, 0, none⟩), .int .i64 (t : Int), .int .i64 (e : Int)] w (RPost w F o h T (failP R t e) (.tuple #[])) := by
  generalize hpost : RPost w F o h T (failP R t e) (.tuple #[]) = post
  obtain ⟨lb, lc, ns, h1, _⟩ := hr.ex
  have c := h1.cell (refCells_err lb lc ns R t ht)
  have f := h1.free (9 + t)
  have htI : (t : Int) < 8 := by omega
  have ht0 : (0 : Int) ≤ (t : Int) := by omega
  by_cases h0 : R.errs.getD t 0 = 0
  · have hfin : post (.returned (.tuple #[])) (w.setCell ⟨h, 9 + t, none⟩ (.int .i64 (e : Int))) := by
      rw [← hpost]
      refine ⟨F, rfl, ?_, (Dstep.refl w F o).set (a := ⟨h, 9 + t, none⟩) hr.fh _⟩
      have hk := failP_ok hr.ok t he
      unfold failP at hk ⊢
      rw [if_pos h0] at hk ⊢
      exact hr.re (Only.setAt w h (9 + t) _) (fun lb lc ns hh => by rw [refCells_setErr lb lc ns R t e ht hr.ok.el]; exact hh.set (9 + t) _) rfl rfl hk
    rw [h0] at c
    replace hfin := Lib.hid hfin
    clear hpost hr h1 h0
    go_enter Try.func100, Try.ntmps100
    go_wp2_with fail
    exact bodyPost_end (results_none rfl _ _ _) rfl hfin.out
  · have hfin : post (.returned (.tuple #[])) w := by
      rw [← hpost]
      refine ⟨F, rfl, ?_, Dstep.refl w F o⟩
      unfold failP; rw [if_neg h0]; exact hr
    have hz : (((R.errs.getD t 0 : Nat) : Int) == 0) = false := by rw [beq_eq_false_iff_ne]; omega
    generalize R.errs.getD t 0 = ev at *
    replace hfin := Lib.hid hfin
    clear hpost hr h1 h0
    go_enter Try.func100, Try.ntmps100
    go_wp2_with fail
    exact bodyPost_end (results_none rfl _ _ _) rfl hfin.out

theorem refCells_off (lb lc : Nat) (ns : Nat → Value) (R : Dv) : (refCells lb lc ns R)[18]? = some (.bool R.off) := rfl
theorem refCells_left (lb lc : Nat) (ns : Nat → Value) (R : Dv) : (refCells lb lc ns R)[17]? = some (.int .i64 R.left) := rfl
set_option maxHeartbeats 1000000 in
theorem rmay_any (hr : RefSt w F o h T R) {t : Nat} (b : Bool) (ht : t < 8) :
    Calls Try.prog 99 #[.pointer (some ⟨h, 0, none⟩), .int .i64 (t : Int), .bool b] w (RPost w F o h T (mayP R t b) (.bool (mayB R b))) := by
  generalize hpost : RPost w F o h T (mayP R t b) (.bool (mayB R b)) = post
  obtain ⟨lb, lc, ns, h1, _⟩ := hr.ex
  have c := h1.cell (refCells_off lb lc ns R)
  cases hoff : R.off with
  | true =>
    rw [hoff] at c
    have e1 : mayP R t b = failP R t 3 := by simp [mayP, hoff]
    have e2 : mayB R b = false := by simp [mayB, hoff]
    rw [e1, e2] at hpost
    have hf := rfail_any hr ht (e := 3) (.inr rfl)
    replace hpost := Lib.hid hpost
    replace hf := Lib.hid hf
    clear e1 e2 hoff hr h1
    go_enter Try.func99, Try.ntmps99
    go_wp2_with fail
    refine hf.out.mono ?_
    rintro e w1 ⟨F1, rfl, q1, s1⟩
    have hfin : post (.returned (.bool false)) w1 := by rw [← hpost.out]; exact ⟨F1, rfl, q1, s1⟩
    replace hfin := Lib.hid hfin
    go_wp2_with fail
    exact hfin.out
  | false =>
    rw [hoff] at c
    cases b with
    | false =>
      have e1 : mayP R t false = failP R t 2 := by simp [mayP, hoff]
      have e2 : mayB R false = false := by simp [mayB]
      rw [e1, e2] at hpost
      have hf := rfail_any hr ht (e := 2) (.inl rfl)
      replace hpost := Lib.hid hpost
      replace hf := Lib.hid hf
      clear e1 e2 hoff hr h1
      go_enter Try.func99, Try.ntmps99
      go_wp2_with fail
      refine hf.out.mono ?_
      rintro e w1 ⟨F1, rfl, q1, s1⟩
      have hfin : post (.returned (.bool false)) w1 := by rw [← hpost.out]; exact ⟨F1, rfl, q1, s1⟩
      replace hfin := Lib.hid hfin
      go_wp2_with fail
      exact hfin.out
    | true =>
      have e1 : mayP R t true = R := by simp [mayP, hoff]
      have e2 : mayB R true = true := by simp [mayB, hoff]
      rw [e1, e2] at hpost
      have hfin : post (.returned (.bool true)) w := by rw [← hpost]; exact ⟨F, rfl, hr, Dstep.refl _ _ _⟩
      replace hfin := Lib.hid hfin
      clear e1 e2 hoff hr h1 hpost
      go_enter Try.func99, Try.ntmps99
      go_wp2_with fail
      exact hfin.out

set_option maxHeartbeats 2000000 in
theorem rcounted_any (hr : RefSt w F o h T R) (hT : T + 1 ≤ 100000) {t : Nat} (b : Bool) (ht : t < 8) :
    Calls Try.prog 50 #[.pointer (some ⟨h, 0, none⟩), .int .i64 (t : Int), .bool b] w (RPost w F o h (T + 1) (countP R t b) (.bool (countB R b))) := by
  generalize hpost : RPost w F o h (T + 1) (countP R t b) (.bool (countB R b)) = post
  have hon := rmay_any hr b ht
  by_cases hm : mayB R b = false
  · have e1 : countB R b = false := by
      unfold mayB at hm; unfold countB; rw [hm]; rfl
    have e2 : countP R t b = mayP R t b := by
      unfold countP mayP
      cases hoff : R.off with
      | true => rfl
      | false => cases b with
        | true => simp [mayB, hoff] at hm
        | false => rfl
    rw [e1, e2] at hpost
    rw [hm] at hon
    have hg : ∀ w1, RPost w F o h T (mayP R t b) (.bool false) (.returned (.bool false)) w1 → post (.returned (.bool false)) w1 := by
      rintro w1 ⟨F1, _, h1, s1⟩
      rw [← hpost]
      exact ⟨F1, rfl, h1.up (by omega) hT, s1⟩
    replace hg := Lib.hid hg
    replace hon := Lib.hid hon
    clear hpost e1 e2 hm hr
    go_enter Try.func50, Try.ntmps50
    go_wp2_with fail
    refine hon.out.mono ?_
    rintro e w1 ⟨F1, rfl, h1, s1⟩
    have hx := hg.out w1 ⟨F1, rfl, h1, s1⟩
    replace hx := Lib.hid hx
    clear h1 s1 hg hon
    go_wp2_with fail
    exact hx.out
  · have hm1 : mayB R b = true := by simpa using hm
    have hoff : R.off = false := by
      unfold mayB at hm1; cases hq : R.off with
      | true => rw [hq] at hm1; simp at hm1
      | false => rfl
    have hb : b = true := by
      unfold mayB at hm1; cases b with
      | true => rfl
      | false => simp at hm1
    subst hb
    have em : mayP R t true = R := by simp [mayP, hoff]
    rw [hm1, em] at hon
    have l1 := hr.ok.l1
    have l2 := hr.ok.l2
    have hex := hr.ok.x
    have ht100 := hr.ok.t
    by_cases hz : R.left = 0
    · have e1 : countB R true = false := by simp [countB, hz]
      have e2 : countP R t true = failP { R with off := true } t 3 := by simp [countP, hoff, hz]
      rw [e1, e2] at hpost
      replace hpost := Lib.hid hpost
      replace hon := Lib.hid hon
      clear hr e1 e2 em hm hm1 hoff
      go_enter Try.func50, Try.ntmps50
      go_wp2_with fail
      refine hon.out.mono ?_
      rintro e w1 ⟨F1, rfl, h1, s1⟩
      obtain ⟨lb, lc, ns, hh, _⟩ := h1.ex
      have d3 := hh.cell (refCells_left lb lc ns R)
      have d4 := hh.cell (refCells_off lb lc ns R)
      have f4 := hh.free 18
      rw [hz] at d3
      have hD : RefSt (w1.setCell ⟨h, 18, none⟩ (.bool true)) F1 o h T { R with off := true } := h1.re (Only.setAt w1 h 18 _) (fun lb lc ns hh => hh.set 18 (.bool true)) rfl rfl (off_ok h1.ok)
      have hS := s1.set (a := ⟨h, 18, none⟩) h1.fh (.bool true)
      have hf := rfail_any hD ht (e := 3) (.inr rfl)
      replace hf := Lib.hid hf
      replace hS := Lib.hid hS
      replace hz := Lib.hid hz
      clear hD h1 s1 hh
      go_wp2_with fail
      refine hf.out.mono ?_
      rintro e w2 ⟨F2, rfl, h2, s2⟩
      have hfin : post (.returned (.bool false)) w2 := by rw [← hpost.out]; exact ⟨F2, rfl, h2.up (by omega) hT, hS.out.trans s2⟩
      replace hfin := Lib.hid hfin
      go_wp2_with fail
      exact hfin.out
    · have e1 : countB R true = true := by simp [countB, hoff, hz]
      have e2 : countP R t true = { R with left := (if 0 < R.left then R.left - 1 else R.left), exe := R.exe + 1 } := by simp [countP, hoff, hz]
      rw [e1, e2] at hpost
      have okS := step_ok hr.ok hT
      have q5 : (R.left == 0) = false := by rw [beq_eq_false_iff_ne]; exact hz
      replace hpost := Lib.hid hpost
      replace hon := Lib.hid hon
      clear hr e1 e2 em hm hm1 hoff
      go_enter Try.func50, Try.ntmps50
      go_wp2_with fail
      refine hon.out.mono ?_
      rintro e w1 ⟨F1, rfl, h1, s1⟩
      obtain ⟨lb, lc, ns, hh, _⟩ := h1.ex
      have d3 := hh.cell (refCells_left lb lc ns R)
      have f3 := hh.free 17
      have d5 := hh.cell (show (refCells lb lc ns R)[19]? = some (.int .u64 (R.exe : Int)) from rfl)
      have f5 := hh.free 19
      by_cases hp : 0 < R.left
      · rw [if_pos hp] at okS hpost
        have hD := h1.re (R' := { R with left := R.left - 1, exe := R.exe + 1 }) ((Only.setAt w1 h 17 (.int .i64 (R.left - 1))).trans (Only.setAt _ h 19 (.int .u64 ((R.exe : Int) + 1)))) (fun lb lc ns hh => (hh.set 17 (.int .i64 (R.left - 1))).set 19 (.int .u64 ((R.exe : Int) + 1))) rfl rfl okS
        have hS := (s1.set (a := ⟨h, 17, none⟩) h1.fh (.int .i64 (R.left - 1))).set (a := ⟨h, 19, none⟩) h1.fh (.int .u64 ((R.exe : Int) + 1))
        have hfin : post (.returned (.bool true)) ((w1.setCell ⟨h, 17, none⟩ (.int .i64 (R.left - 1))).setCell ⟨h, 19, none⟩ (.int .u64 ((R.exe : Int) + 1))) := by
          rw [← hpost.out]; exact ⟨F1, rfl, hD, hS⟩
        replace hfin := Lib.hid hfin
        clear hD hS h1 s1 hpost okS hon hh
        generalize R.left = lf at *
        generalize R.exe = ex at *
        have hex2 : (ex : Int) ≤ 100000 := by omega
        go_wp2_with fail
        exact hfin.out
      · rw [if_neg hp] at okS hpost
        have hD := h1.re (R' := { R with left := R.left, exe := R.exe + 1 }) (Only.setAt w1 h 19 (.int .u64 ((R.exe : Int) + 1))) (fun lb lc ns hh => hh.set 19 (.int .u64 ((R.exe : Int) + 1))) rfl rfl okS
        have hS := s1.set (a := ⟨h, 19, none⟩) h1.fh (.int .u64 ((R.exe : Int) + 1))
        have hfin : post (.returned (.bool true)) (w1.setCell ⟨h, 19, none⟩ (.int .u64 ((R.exe : Int) + 1))) := by
          rw [← hpost.out]; exact ⟨F1, rfl, hD, hS⟩
        replace hfin := Lib.hid hfin
        clear hD hS h1 s1 hpost okS hon hh
        generalize R.left = lf at *
        generalize R.exe = ex at *
        have hex2 : (ex : Int) ≤ 100000 := by omega
        go_wp2_with fail
        exact hfin.out

theorem refCells_lines (lb lc : Nat) (ns : Nat → Value) (R : Dv) : (refCells lb lc ns R)[0]? = some (.slice (some ⟨lb, 0, none⟩) R.lines.length lc) := rfl
theorem ris_any (hr : RefSt w F o h T R) {off : Nat} (ho : off < 18446744073709551616) : Calls Try.prog 51 #[.pointer (some ⟨h, 0, none⟩), .int .u64 (off : Int)] w fun e w' => e = .returned (.bool (R.isB off)) ∧ w = w' := by
  obtain ⟨lb, lc, ns, h1, _⟩ := hr.ex
  have c := h1.cell (refCells_lines lb lc ns R)
  have hn := hr.ok.n2
  clear hr
  by_cases ha : off % 8 = 0
  · have e : R.isB off = decide (((off / 64 : Nat) : Int) < (R.lines.length : Int)) := by
      unfold Dv.isB; apply decide_eq_decide.2; omega
    have h8 : (((off : Int) % 8) == 0) = true := by rw [beq_iff_eq]; omega
    have h9 : decide (((off : Int) / 64) < (R.lines.length : Int)) = decide (((off / 64 : Nat) : Int) < (R.lines.length : Int)) := by apply decide_eq_decide.2; omega
    rw [e, ← h9]
    replace ha := Lib.hid ha
    clear e h9
    go_enter Try.func51, Try.ntmps51
    go_wp2_with fail
    go_ret
    exact ⟨rfl, rfl⟩
  · have e : R.isB off = false := by
      unfold Dv.isB; exact decide_eq_false (fun h => ha h.1)
    have h8 : (((off : Int) % 8) == 0) = false := by rw [beq_eq_false_iff_ne]; omega
    rw [e]
    clear e
    go_enter Try.func51, Try.ntmps51
    go_wp2_with fail
    go_ret
    exact ⟨rfl, rfl⟩
end Go.Proofs.Ytikjpklbbjmioaa
