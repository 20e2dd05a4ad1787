/- The reference's device: fail, may, counted, Is, Arm. The reference's device: Words. The reference's device: value, Load, Arm. The reference's device: put, Store, CAS. -/
import Derived.Test.YtikjpklbbjmioaaD3
import Derived.Test.YtikjpklbbjmioaaD9
import Derived.Test.YtikjpklbbjmioaaD7
import Derived.Test.YtikjpklbbjmioaaD8
import Derived.Test.YtikjpklbbjmioaaD12
/-! The reference's device: fail, may, counted, Is, Arm. -/
namespace Go.Proofs.Ytikjpklbbjmioaa
open Go.RowKit Go.Maps
variable {w : World} {F : Own} {o h T : Nat} {R : Dv}

theorem RefSt.re {w w' : World} {T' : Nat} {R' : Dv} (hr : RefSt w F o h T R) (ho : Only (fun k => k = h) w w') (hd : ∀ lb lc ns, Has w h (refCells lb lc ns R) 110 → Has w' h (refCells lb lc ns R') 110) (hl : R'.lines = R.lines) (hn : R'.notes = R.notes) (hk : R'.Ok T') :
    RefSt w' F o h T' R' := by
  obtain ⟨lb, lc, ns, h1, h2, h3, h4⟩ := hr.ex
  have ne : ∀ {b : Nat} {r : Nat × Nat}, F b = some (o, r) → r ≠ (0, 0) → ¬ b = h := fun hb hr' => Own.ne hb hr.fh (fun e => hr' (by cases e; rfl))
  have e4 : ∀ i, R'.line i = R.line i := fun i => by unfold Dv.line; rw [hl]
  refine ⟨hk, ⟨lb, lc, ns, hd _ _ _ h1, ?_, h3, fun t ht => ?_⟩, hr.fh⟩
  · have := h2.kept h3 ho (Ext.refl w F) (fun k s => ⟨fun e => ne e (by simp) s, fun i e => ne e (by simp) s⟩)
    unfold RLinSt at *
    simp only [hl, e4]; exact this
  · rw [hn]; exact (h4 t ht).kept ho (Ext.refl w F) (fun k s e => ne e (by simp) s)
theorem refCells_setErr (lb lc : Nat) (ns : Nat → Value) (R : Dv) (t e : Nat) (ht : t < 8) (hl : R.errs.length = 8) : refCells lb lc ns { R with errs := R.errs.set t e } = (refCells lb lc ns R).set (9 + t) (.int .i64 (e : Int)) := by
  have g : ∀ j, (R.errs.set t e).getD j 0 = if j = t then e else R.errs.getD j 0 := fun j => getD_set _ _ _ _ _ (by omega)
  unfold refCells
  simp only [g]
  match t, ht with
  | 0, _ | 1, _ | 2, _ | 3, _ | 4, _ | 5, _ | 6, _ | 7, _ => rfl
theorem err_lt (hk : R.Ok T) (t : Nat) : R.errs.getD t 0 ≤ 3 := by
  by_cases ht : t < 8
  · have := hk.ev _ (mem_getD 0 (show t < R.errs.length by rw [hk.el]; exact ht)); omega
  · rw [List.getD, List.getElem?_eq_none (by rw [hk.el]; omega)]; show (0 : Nat) ≤ 3; omega

set_option maxHeartbeats 1000000 in
theorem rfail_any (hr : RefSt w F o h T R) {t e : Nat} (ht : t < 8) (he : e = 2 ∨ e = 3) :
    Calls Try.prog 100 #[.pointer (some ⟨h, 0, none⟩), .int .i64 (t : Int), .int .i64 (e : Int)] w (RPost w F o h T (failP R t e) (.tuple #[])) := by
  generalize hpost : RPost w F o h T (failP R t e) (.tuple #[]) = post
  obtain ⟨lb, lc, ns, h1, _⟩ := hr.ex
  have c := h1.cell (refCells_err lb lc ns R t ht)
  have f := h1.free (9 + t)
  have htI : (t : Int) < 8 := by omega
  have ht0 : (0 : Int) ≤ (t : Int) := by omega
  by_cases h0 : R.errs.getD t 0 = 0
  · have hfin : post (.returned (.tuple #[])) (w.setCell ⟨h, 9 + t, none⟩ (.int .i64 (e : Int))) := by
      rw [← hpost]
      refine ⟨F, rfl, ?_, (Dstep.refl w F o).set (a := ⟨h, 9 + t, none⟩) hr.fh _⟩
      have hk := failP_ok hr.ok t he
      unfold failP at hk ⊢
      rw [if_pos h0] at hk ⊢
      exact hr.re (Only.setAt w h (9 + t) _) (fun lb lc ns hh => by rw [refCells_setErr lb lc ns R t e ht hr.ok.el]; exact hh.set (9 + t) _) rfl rfl hk
    rw [h0] at c
    replace hfin := Lib.hid hfin
    clear hpost hr h1 h0
    go_enter Try.func100, Try.ntmps100
    go_wp2_with fail
    exact bodyPost_end (results_none rfl _ _ _) rfl hfin.out
  · have hfin : post (.returned (.tuple #[])) w := by
      rw [← hpost]
      refine ⟨F, rfl, ?_, Dstep.refl w F o⟩
      unfold failP; rw [if_neg h0]; exact hr
    have hz : (((R.errs.getD t 0 : Nat) : Int) == 0) = false := by rw [beq_eq_false_iff_ne]; omega
    generalize R.errs.getD t 0 = ev at *
    replace hfin := Lib.hid hfin
    clear hpost hr h1 h0
    go_enter Try.func100, Try.ntmps100
    go_wp2_with fail
    exact bodyPost_end (results_none rfl _ _ _) rfl hfin.out

theorem refCells_off (lb lc : Nat) (ns : Nat → Value) (R : Dv) : (refCells lb lc ns R)[18]? = some (.bool R.off) := rfl
theorem refCells_left (lb lc : Nat) (ns : Nat → Value) (R : Dv) : (refCells lb lc ns R)[17]? = some (.int .i64 R.left) := rfl
set_option maxHeartbeats 1000000 in
theorem rmay_any (hr : RefSt w F o h T R) {t : Nat} (b : Bool) (ht : t < 8) :
    Calls Try.prog 99 #[.pointer (some ⟨h, 0, none⟩), .int .i64 (t : Int), .bool b] w (RPost w F o h T (mayP R t b) (.bool (mayB R b))) := by
  generalize hpost : RPost w F o h T (mayP R t b) (.bool (mayB R b)) = post
  obtain ⟨lb, lc, ns, h1, _⟩ := hr.ex
  have c := h1.cell (refCells_off lb lc ns R)
  cases hoff : R.off with
  | true =>
    rw [hoff] at c
    have e1 : mayP R t b = failP R t 3 := by simp [mayP, hoff]
    have e2 : mayB R b = false := by simp [mayB, hoff]
    rw [e1, e2] at hpost
    have hf := rfail_any hr ht (e := 3) (.inr rfl)
    replace hpost := Lib.hid hpost
    replace hf := Lib.hid hf
    clear e1 e2 hoff hr h1
    go_enter Try.func99, Try.ntmps99
    go_wp2_with fail
    refine hf.out.mono ?_
    rintro e w1 ⟨F1, rfl, q1, s1⟩
    have hfin : post (.returned (.bool false)) w1 := by rw [← hpost.out]; exact ⟨F1, rfl, q1, s1⟩
    replace hfin := Lib.hid hfin
    go_wp2_with fail
    exact hfin.out
  | false =>
    rw [hoff] at c
    cases b with
    | false =>
      have e1 : mayP R t false = failP R t 2 := by simp [mayP, hoff]
      have e2 : mayB R false = false := by simp [mayB]
      rw [e1, e2] at hpost
      have hf := rfail_any hr ht (e := 2) (.inl rfl)
      replace hpost := Lib.hid hpost
      replace hf := Lib.hid hf
      clear e1 e2 hoff hr h1
      go_enter Try.func99, Try.ntmps99
      go_wp2_with fail
      refine hf.out.mono ?_
      rintro e w1 ⟨F1, rfl, q1, s1⟩
      have hfin : post (.returned (.bool false)) w1 := by rw [← hpost.out]; exact ⟨F1, rfl, q1, s1⟩
      replace hfin := Lib.hid hfin
      go_wp2_with fail
      exact hfin.out
    | true =>
      have e1 : mayP R t true = R := by simp [mayP, hoff]
      have e2 : mayB R true = true := by simp [mayB, hoff]
      rw [e1, e2] at hpost
      have hfin : post (.returned (.bool true)) w := by rw [← hpost]; exact ⟨F, rfl, hr, Dstep.refl _ _ _⟩
      replace hfin := Lib.hid hfin
      clear e1 e2 hoff hr h1 hpost
      go_enter Try.func99, Try.ntmps99
      go_wp2_with fail
      exact hfin.out

set_option maxHeartbeats 2000000 in
theorem rcounted_any (hr : RefSt w F o h T R) (hT : T + 1 ≤ 100000) {t : Nat} (b : Bool) (ht : t < 8) :
    Calls Try.prog 50 #[.pointer (some ⟨h, 0, none⟩), .int .i64 (t : Int), .bool b] w (RPost w F o h (T + 1) (countP R t b) (.bool (countB R b))) := by
  generalize hpost : RPost w F o h (T + 1) (countP R t b) (.bool (countB R b)) = post
  have hon := rmay_any hr b ht
  by_cases hm : mayB R b = false
  · have e1 : countB R b = false := by
      unfold mayB at hm; unfold countB; rw [hm]; rfl
    have e2 : countP R t b = mayP R t b := by
      unfold countP mayP
      cases hoff : R.off with
      | true => rfl
      | false => cases b with
        | true => simp [mayB, hoff] at hm
        | false => rfl
    rw [e1, e2] at hpost
    rw [hm] at hon
    have hg : ∀ w1, RPost w F o h T (mayP R t b) (.bool false) (.returned (.bool false)) w1 → post (.returned (.bool false)) w1 := by
      rintro w1 ⟨F1, _, h1, s1⟩
      rw [← hpost]
      exact ⟨F1, rfl, h1.up (by omega) hT, s1⟩
    replace hg := Lib.hid hg
    replace hon := Lib.hid hon
    clear hpost e1 e2 hm hr
    go_enter Try.func50, Try.ntmps50
    go_wp2_with fail
    refine hon.out.mono ?_
    rintro e w1 ⟨F1, rfl, h1, s1⟩
    have hx := hg.out w1 ⟨F1, rfl, h1, s1⟩
    replace hx := Lib.hid hx
    clear h1 s1 hg hon
    go_wp2_with fail
    exact hx.out
  · have hm1 : mayB R b = true := by simpa using hm
    have hoff : R.off = false := by
      unfold mayB at hm1; cases hq : R.off with
      | true => rw [hq] at hm1; simp at hm1
      | false => rfl
    have hb : b = true := by
      unfold mayB at hm1; cases b with
      | true => rfl
      | false => simp at hm1
    subst hb
    have em : mayP R t true = R := by simp [mayP, hoff]
    rw [hm1, em] at hon
    have l1 := hr.ok.l1
    have l2 := hr.ok.l2
    have hex := hr.ok.x
    have ht100 := hr.ok.t
    by_cases hz : R.left = 0
    · have e1 : countB R true = false := by simp [countB, hz]
      have e2 : countP R t true = failP { R with off := true } t 3 := by simp [countP, hoff, hz]
      rw [e1, e2] at hpost
      replace hpost := Lib.hid hpost
      replace hon := Lib.hid hon
      clear hr e1 e2 em hm hm1 hoff
      go_enter Try.func50, Try.ntmps50
      go_wp2_with fail
      refine hon.out.mono ?_
      rintro e w1 ⟨F1, rfl, h1, s1⟩
      obtain ⟨lb, lc, ns, hh, _⟩ := h1.ex
      have d3 := hh.cell (refCells_left lb lc ns R)
      have d4 := hh.cell (refCells_off lb lc ns R)
      have f4 := hh.free 18
      rw [hz] at d3
      have hD : RefSt (w1.setCell ⟨h, 18, none⟩ (.bool true)) F1 o h T { R with off := true } := h1.re (Only.setAt w1 h 18 _) (fun lb lc ns hh => hh.set 18 (.bool true)) rfl rfl (off_ok h1.ok)
      have hS := s1.set (a := ⟨h, 18, none⟩) h1.fh (.bool true)
      have hf := rfail_any hD ht (e := 3) (.inr rfl)
      replace hf := Lib.hid hf
      replace hS := Lib.hid hS
      replace hz := Lib.hid hz
      clear hD h1 s1 hh
      go_wp2_with fail
      refine hf.out.mono ?_
      rintro e w2 ⟨F2, rfl, h2, s2⟩
      have hfin : post (.returned (.bool false)) w2 := by rw [← hpost.out]; exact ⟨F2, rfl, h2.up (by omega) hT, hS.out.trans s2⟩
      replace hfin := Lib.hid hfin
      go_wp2_with fail
      exact hfin.out
    · have e1 : countB R true = true := by simp [countB, hoff, hz]
      have e2 : countP R t true = { R with left := (if 0 < R.left then R.left - 1 else R.left), exe := R.exe + 1 } := by simp [countP, hoff, hz]
      rw [e1, e2] at hpost
      have okS := step_ok hr.ok hT
      have q5 : (R.left == 0) = false := by rw [beq_eq_false_iff_ne]; exact hz
      replace hpost := Lib.hid hpost
      replace hon := Lib.hid hon
      clear hr e1 e2 em hm hm1 hoff
      go_enter Try.func50, Try.ntmps50
      go_wp2_with fail
      refine hon.out.mono ?_
      rintro e w1 ⟨F1, rfl, h1, s1⟩
      obtain ⟨lb, lc, ns, hh, _⟩ := h1.ex
      have d3 := hh.cell (refCells_left lb lc ns R)
      have f3 := hh.free 17
      have d5 := hh.cell (show (refCells lb lc ns R)[19]? = some (.int .u64 (R.exe : Int)) from rfl)
      have f5 := hh.free 19
      by_cases hp : 0 < R.left
      · rw [if_pos hp] at okS hpost
        have hD := h1.re (R' := { R with left := R.left - 1, exe := R.exe + 1 }) ((Only.setAt w1 h 17 (.int .i64 (R.left - 1))).trans (Only.setAt _ h 19 (.int .u64 ((R.exe : Int) + 1)))) (fun lb lc ns hh => (hh.set 17 (.int .i64 (R.left - 1))).set 19 (.int .u64 ((R.exe : Int) + 1))) rfl rfl okS
        have hS := (s1.set (a := ⟨h, 17, none⟩) h1.fh (.int .i64 (R.left - 1))).set (a := ⟨h, 19, none⟩) h1.fh (.int .u64 ((R.exe : Int) + 1))
        have hfin : post (.returned (.bool true)) ((w1.setCell ⟨h, 17, none⟩ (.int .i64 (R.left - 1))).setCell ⟨h, 19, none⟩ (.int .u64 ((R.exe : Int) + 1))) := by
          rw [← hpost.out]; exact ⟨F1, rfl, hD, hS⟩
        replace hfin := Lib.hid hfin
        clear hD hS h1 s1 hpost okS hon hh
        generalize R.left = lf at *
        generalize R.exe = ex at *
        have hex2 : (ex : Int) ≤ 100000 := by omega
        go_wp2_with fail
        exact hfin.out
      · rw [if_neg hp] at okS hpost
        have hD := h1.re (R' := { R with left := R.left, exe := R.exe + 1 }) (Only.setAt w1 h 19 (.int .u64 ((R.exe : Int) + 1))) (fun lb lc ns hh => hh.set 19 (.int .u64 ((R.exe : Int) + 1))) rfl rfl okS
        have hS := s1.set (a := ⟨h, 19, none⟩) h1.fh (.int .u64 ((R.exe : Int) + 1))
        have hfin : post (.returned (.bool true)) (w1.setCell ⟨h, 19, none⟩ (.int .u64 ((R.exe : Int) + 1))) := by
          rw [← hpost.out]; exact ⟨F1, rfl, hD, hS⟩
        replace hfin := Lib.hid hfin
        clear hD hS h1 s1 hpost okS hon hh
        generalize R.left = lf at *
        generalize R.exe = ex at *
        have hex2 : (ex : Int) ≤ 100000 := by omega
        go_wp2_with fail
        exact hfin.out

theorem refCells_lines (lb lc : Nat) (ns : Nat → Value) (R : Dv) : (refCells lb lc ns R)[0]? = some (.slice (some ⟨lb, 0, none⟩) R.lines.length lc) := rfl
theorem ris_any (hr : RefSt w F o h T R) {off : Nat} (ho : off < 18446744073709551616) : Calls Try.prog 51 #[.pointer (some ⟨h, 0, none⟩), .int .u64 (off : Int)] w fun e w' => e = .returned (.bool (R.isB off)) ∧ w = w' := by
  obtain ⟨lb, lc, ns, h1, _⟩ := hr.ex
  have c := h1.cell (refCells_lines lb lc ns R)
  have hn := hr.ok.n2
  clear hr
  by_cases ha : off % 8 = 0
  · have e : R.isB off = decide (((off / 64 : Nat) : Int) < (R.lines.length : Int)) := by
      unfold Dv.isB; apply decide_eq_decide.2; omega
    have h8 : (((off : Int) % 8) == 0) = true := by rw [beq_iff_eq]; omega
    have h9 : decide (((off : Int) / 64) < (R.lines.length : Int)) = decide (((off / 64 : Nat) : Int) < (R.lines.length : Int)) := by apply decide_eq_decide.2; omega
    rw [e, ← h9]
    replace ha := Lib.hid ha
    clear e h9
    go_enter Try.func51, Try.ntmps51
    go_wp2_with fail
    go_ret
    exact ⟨rfl, rfl⟩
  · have e : R.isB off = false := by
      unfold Dv.isB; exact decide_eq_false (fun h => ha h.1)
    have h8 : (((off : Int) % 8) == 0) = false := by rw [beq_eq_false_iff_ne]; omega
    rw [e]
    clear e
    go_enter Try.func51, Try.ntmps51
    go_wp2_with fail
    go_ret
    exact ⟨rfl, rfl⟩
end Go.Proofs.Ytikjpklbbjmioaa

/-! The reference's device: Words. -/
namespace Go.Proofs.Ytikjpklbbjmioaa
open Go.RowKit Go.Maps
variable {w : World} {F : Own} {o h T : Nat} {R : Dv}

def aggW (ws : List Nat) : Value := .agg #[.int .u64 ((wat ws 0 : Nat) : Int), .int .u64 ((wat ws 1 : Nat) : Int), .int .u64 ((wat ws 2 : Nat) : Int), .int .u64 ((wat ws 3 : Nat) : Int), .int .u64 ((wat ws 4 : Nat) : Int), .int .u64 ((wat ws 5 : Nat) : Int), .int .u64 ((wat ws 6 : Nat) : Int), .int .u64 ((wat ws 7 : Nat) : Int)]
def cellsW (ws : List Nat) : List Value := [.int .u64 ((wat ws 0 : Nat) : Int), .int .u64 ((wat ws 1 : Nat) : Int), .int .u64 ((wat ws 2 : Nat) : Int), .int .u64 ((wat ws 3 : Nat) : Int), .int .u64 ((wat ws 4 : Nat) : Int), .int .u64 ((wat ws 5 : Nat) : Int), .int .u64 ((wat ws 6 : Nat) : Int), .int .u64 ((wat ws 7 : Nat) : Int)]
theorem cellsW_get (ws : List Nat) (j : Nat) (h : j < 8) : (cellsW ws)[j]? = some (.int .u64 ((wat ws j : Nat) : Int)) := by
  match j, h with
  | 0, _ | 1, _ | 2, _ | 3, _ | 4, _ | 5, _ | 6, _ | 7, _ => rfl
theorem cellsW_set (ws : List Nat) (h : ws.length = 8) (j v : Nat) (hj : j < 8) : cellsW (ws.set j v) = (cellsW ws).set j (.int .u64 (v : Int)) := by
  have g : ∀ i, wat (ws.set j v) i = if i = j then v else wat ws i := fun i => getD_set _ _ _ _ _ (by omega)
  unfold cellsW
  simp only [g]
  match j, hj with
  | 0, _ | 1, _ | 2, _ | 3, _ | 4, _ | 5, _ | 6, _ | 7, _ => rfl
def WordsPost (w : World) (ws : List Nat) (e : Ending) (w' : World) : Prop := e = .returned (aggW ws) ∧ Below w.heap.size w w'
theorem three_new (w : World) (a z c : List Value) (A Z C : TypeId) : Has (((w.alloc (.cells a.toArray A)).alloc (.cells z.toArray Z)).alloc (.cells c.toArray C)) w.heap.size a A ∧ Has (((w.alloc (.cells a.toArray A)).alloc (.cells z.toArray Z)).alloc (.cells c.toArray C)) (w.heap.size + 1) z Z ∧
    Has (((w.alloc (.cells a.toArray A)).alloc (.cells z.toArray Z)).alloc (.cells c.toArray C)) (w.heap.size + 1 + 1) c C ∧ Below w.heap.size w (((w.alloc (.cells a.toArray A)).alloc (.cells z.toArray Z)).alloc (.cells c.toArray C)) := by
  have h1 := ((Has.new w a A).alloc (.cells z.toArray Z)).alloc (.cells c.toArray C)
  have h2 := (Has.new (w.alloc (.cells a.toArray A)) z Z).alloc (.cells c.toArray C)
  have h3 := Has.new ((w.alloc (.cells a.toArray A)).alloc (.cells z.toArray Z)) c C
  simp only [World.size_alloc] at h2 h3
  exact ⟨h1, h2, h3, (((Below.refl w.heap.size w).alloc (Nat.le_refl _) _).alloc (by simp) _).alloc (by simp; omega) _⟩
set_option maxHeartbeats 4000000 in
set_option maxRecDepth 100000 in
theorem words_any (w : World) (l : Ln) (k : Nat) (va : Option Addr) (vc : Nat) (hb : l.base.length = 8) (hk : k ≤ l.hist.length) (hl : l.hist.length ≤ 100000) (hr : Rd w (.slice va l.hist.length vc) l.hist.length (wcells l.hist)) (hp : ∀ p ∈ l.hist, p.1 < 18446744073709551616 ∧ p.2 < 18446744073709551616) (dn : Int) :
    Calls Try.prog 101 #[.agg #[.int .u64 ((wat l.base 0 : Nat) : Int), .int .u64 ((wat l.base 1 : Nat) : Int), .int .u64 ((wat l.base 2 : Nat) : Int), .int .u64 ((wat l.base 3 : Nat) : Int), .int .u64 ((wat l.base 4 : Nat) : Int), .int .u64 ((wat l.base 5 : Nat) : Int), .int .u64 ((wat l.base 6 : Nat) : Int), .int .u64 ((wat l.base 7 : Nat) : Int), .slice va l.hist.length vc, .int .i64 dn], .int .i64 (k : Int)] w (WordsPost w (wordsL l k)) := by
  generalize hpost : WordsPost w (wordsL l k) = post
  replace hpost := Lib.hid hpost
  have hBx := Has.new w [.int .u64 ((wat l.base 0 : Nat) : Int), .int .u64 ((wat l.base 1 : Nat) : Int), .int .u64 ((wat l.base 2 : Nat) : Int), .int .u64 ((wat l.base 3 : Nat) : Int), .int .u64 ((wat l.base 4 : Nat) : Int), .int .u64 ((wat l.base 5 : Nat) : Int), .int .u64 ((wat l.base 6 : Nat) : Int), .int .u64 ((wat l.base 7 : Nat) : Int), .slice va l.hist.length vc, .int .i64 dn] 122
  have b0 := hBx.cell (o := 0) rfl
  have b1 := hBx.cell (o := 1) rfl
  have b2 := hBx.cell (o := 2) rfl
  have b3 := hBx.cell (o := 3) rfl
  have b4 := hBx.cell (o := 4) rfl
  have b5 := hBx.cell (o := 5) rfl
  have b6 := hBx.cell (o := 6) rfl
  have b7 := hBx.cell (o := 7) rfl
  have hfin : ∀ (w' : World), Below w.heap.size w w' → post (.returned (aggW (wordsL l k))) w' := fun w' hB => by rw [← hpost.out]; exact ⟨rfl, hB⟩
  have hw0 := wordsL_zero l
  have h8 : ∀ i, (wordsL l i).length = 8 := fun i => by rw [wordsL_len]; exact hb
  replace h8 := Lib.hid h8
  replace hfin := Lib.hid hfin
  replace hw0 := Lib.hid hw0
  replace hb := Lib.hid hb
  have h3 := three_new w [.int .u64 ((wat l.base 0 : Nat) : Int), .int .u64 ((wat l.base 1 : Nat) : Int), .int .u64 ((wat l.base 2 : Nat) : Int), .int .u64 ((wat l.base 3 : Nat) : Int), .int .u64 ((wat l.base 4 : Nat) : Int), .int .u64 ((wat l.base 5 : Nat) : Int), .int .u64 ((wat l.base 6 : Nat) : Int), .int .u64 ((wat l.base 7 : Nat) : Int), .slice va l.hist.length vc, .int .i64 dn]
    [.int .u64 0, .int .u64 0, .int .u64 0, .int .u64 0, .int .u64 0, .int .u64 0, .int .u64 0, .int .u64 0] (cellsW l.base) 122 119 119
  replace h3 := Lib.hid h3
  clear hBx
  go_enter Try.func101, Try.ntmps101
  go_wp2_with fail
  go_loopw [6] (fun i wr => ∃ n : Nat, n ≤ k ∧ i = .int .i64 n ∧ Has wr (w.heap.size + 1 + 1) (cellsW (wordsL l n)) 119 ∧ Has wr (w.heap.size + 1) [.int .u64 0, .int .u64 0, .int .u64 0, .int .u64 0, .int .u64 0, .int .u64 0, .int .u64 0, .int .u64 0] 119 ∧ wr.cell? ⟨w.heap.size, 8, none⟩ = some (.slice va l.hist.length vc) ∧ Below w.heap.size w wr) (fun i _ => k - (intOf i).toNat)
  case atStart => exact ⟨0, Nat.zero_le _, rfl, by rw [hw0.out]; exact h3.out.2.2.1, h3.out.2.1, h3.out.1.cell (o := 8) rfl, h3.out.2.2.2⟩
  case round =>
    clear h3 b0 b1 b2 b3 b4 b5 b6 b7
    obtain ⟨n, hn, rfl, hO, hRes, hsl, hB⟩ := hrel
    by_cases hlt : n < k
    · have hnI : (n : Int) < (k : Int) := by omega
      have hat := get_of_lt (0, 0) (show n < l.hist.length by omega)
      have hpk := hp _ (List.mem_of_getElem? hat)
      have hsucc := wordsL_succ l n (0, 0) (by omega)
      generalize l.hist.getD n (0, 0) = p at *
      obtain ⟨p1, p2⟩ := p
      simp only at hpk
      obtain ⟨bl, ol, cl, ea, fa⟩ := (hr.kept hB).cells (by omega)
      simp only [Value.slice.injEq, true_and] at ea
      obtain ⟨rfl, hcap⟩ := ea
      replace hcap := Lib.hid hcap
      have c0 : wr.cell? ⟨bl, ol + n * 2, none⟩ = _ := fa _ _ (wcells_get l.hist n _ hat).1
      have c1 : wr.cell? ⟨bl, ol + n * 2 + 1, none⟩ = _ := fa _ _ (wcells_get l.hist n _ hat).2
      simp only at c0 c1
      obtain ⟨j, hjd⟩ : ∃ j, j = p1 % 64 / 8 := ⟨_, rfl⟩
      obtain ⟨m, hmd⟩ : ∃ m, m = p1 % 64 := ⟨_, rfl⟩
      have hj8 : j < 8 := by omega
      have co := hO.cell (cellsW_get _ _ hj8)
      have fo := hO.free j
      have hst := (hO.drew).set j (.int .u64 (p2 : Int))
      rw [← cellsW_set _ (h8.out n) _ _ hj8] at hst
      have hset : (wordsL l n).set j p2 = wordsL l (n + 1) := by rw [hsucc, hjd]; rfl
      rw [hset] at hst
      have hne : w.heap.size + 1 ≠ w.heap.size + 1 + 1 := by omega
      have hRes2 := (hRes.drew).set_ne (a := ⟨w.heap.size + 1 + 1, j, none⟩) hne (.int .u64 (p2 : Int))
      have hsl2 : (wr.drew.setCell ⟨w.heap.size + 1 + 1, j, none⟩ (.int .u64 (p2 : Int))).cell? ⟨w.heap.size, 8, none⟩ = some (.slice (some ⟨bl, ol, none⟩) l.hist.length vc) := ((Only.refl (fun k => k = w.heap.size + 1 + 1) wr).drew.setCell (a := ⟨w.heap.size + 1 + 1, j, none⟩) (fun _ => rfl) (.int .u64 (p2 : Int))).cell hsl (by show ¬ w.heap.size = w.heap.size + 1 + 1; omega)
      have hB2 : Below w.heap.size w (wr.drew.setCell ⟨w.heap.size + 1 + 1, j, none⟩ (.int .u64 (p2 : Int))) := (below_drewN hB 1).setCell (p := ⟨w.heap.size + 1 + 1, j, none⟩) (by show w.heap.size ≤ w.heap.size + 1 + 1; omega) _
      have hjI : (j : Int) < 8 := by omega
      have hj0 : (0 : Int) ≤ (j : Int) := by omega
      have hm64 : (m : Int) < 64 := by omega
      have hlI : (n : Int) < ((l.hist.length : Nat) : Int) := by omega
      have hp1I : (p1 : Int) < 18446744073709551616 := by omega
      replace hsucc := Lib.hid hsucc
      replace hset := Lib.hid hset
      replace hat := Lib.hid hat
      replace hsl2 := Lib.hid hsl2
      replace hRes2 := Lib.hid hRes2
      clear hO hRes fa
      generalize wat (wordsL l n) j = old at *
      have hmI : (p1 : Int).tmod 64 = (m : Int) := by rw [Int.tmod_eq_emod_of_nonneg (by omega)]; omega
      have hjI2 : IntKind.u64.wrap ((m : Int) / 8) = (j : Int) := by rw [show (m : Int) / 8 = (j : Int) from by omega]; exact IntWalk.u64_in _ (by omega)
      replace hjd := Lib.hid hjd
      replace hmd := Lib.hid hmd
      go_wp2_with fail
      refine region_tail 15 (by kernel_rfl) (by kernel_rfl) ?_
      simp only [List.take_succ_cons, List.take_zero, List.drop_succ_cons, List.drop_zero]
      repeat still_step
      refine wpStill_nil ?_
      clear hmI hjI2
      go_wp2_with fail
      go_roundw
      case rel => exact ⟨n + 1, by omega, by go_num, hst, hRes2.out, hsl2.out, hB2⟩
      case measure => simp [intOf]; omega
    · obtain rfl : n = k := by omega
      have o0 := hO.cell (cellsW_get _ 0 (by omega))
      have o1 := hO.cell (cellsW_get _ 1 (by omega))
      have o2 := hO.cell (cellsW_get _ 2 (by omega))
      have o3 := hO.cell (cellsW_get _ 3 (by omega))
      have o4 := hO.cell (cellsW_get _ 4 (by omega))
      have o5 := hO.cell (cellsW_get _ 5 (by omega))
      have o6 := hO.cell (cellsW_get _ 6 (by omega))
      have o7 := hO.cell (cellsW_get _ 7 (by omega))
      have r0 := hRes.cell (o := 0) rfl
      have r1 := hRes.cell (o := 1) rfl
      have r2 := hRes.cell (o := 2) rfl
      have r3 := hRes.cell (o := 3) rfl
      have r4 := hRes.cell (o := 4) rfl
      have r5 := hRes.cell (o := 5) rfl
      have r6 := hRes.cell (o := 6) rfl
      have r7 := hRes.cell (o := 7) rfl
      have f0 := hRes.free 0
      have f1 := hRes.free 1
      have f2 := hRes.free 2
      have f3 := hRes.free 3
      have f4 := hRes.free 4
      have f5 := hRes.free 5
      have f6 := hRes.free 6
      have f7 := hRes.free 7
      have hBs := hB.size
      have hsz : w.heap.size ≤ w.heap.size + 1 := by omega
      have g0 := hRes.set 0 (.int .u64 ((wat (wordsL l n) 0 : Nat) : Int))
      have q0 := g0.cell (o := 0) rfl
      have g1 := g0.set 1 (.int .u64 ((wat (wordsL l n) 1 : Nat) : Int))
      have q1 := g1.cell (o := 1) rfl
      have g2 := g1.set 2 (.int .u64 ((wat (wordsL l n) 2 : Nat) : Int))
      have q2 := g2.cell (o := 2) rfl
      have g3 := g2.set 3 (.int .u64 ((wat (wordsL l n) 3 : Nat) : Int))
      have q3 := g3.cell (o := 3) rfl
      have g4 := g3.set 4 (.int .u64 ((wat (wordsL l n) 4 : Nat) : Int))
      have q4 := g4.cell (o := 4) rfl
      have g5 := g4.set 5 (.int .u64 ((wat (wordsL l n) 5 : Nat) : Int))
      have q5 := g5.cell (o := 5) rfl
      have g6 := g5.set 6 (.int .u64 ((wat (wordsL l n) 6 : Nat) : Int))
      have q6 := g6.cell (o := 6) rfl
      have g7 := g6.set 7 (.int .u64 ((wat (wordsL l n) 7 : Nat) : Int))
      have q7 := g7.cell (o := 7) rfl
      have hBf : Below w.heap.size w ((((((((wr.setCell ⟨w.heap.size + 1, 0, none⟩ (.int .u64 ((wat (wordsL l n) 0 : Nat) : Int))).setCell ⟨w.heap.size + 1, 1, none⟩ (.int .u64 ((wat (wordsL l n) 1 : Nat) : Int))).setCell ⟨w.heap.size + 1, 2, none⟩ (.int .u64 ((wat (wordsL l n) 2 : Nat) : Int))).setCell ⟨w.heap.size + 1, 3, none⟩ (.int .u64 ((wat (wordsL l n) 3 : Nat) : Int))).setCell ⟨w.heap.size + 1, 4, none⟩ (.int .u64 ((wat (wordsL l n) 4 : Nat) : Int))).setCell ⟨w.heap.size + 1, 5, none⟩ (.int .u64 ((wat (wordsL l n) 5 : Nat) : Int))).setCell ⟨w.heap.size + 1, 6, none⟩ (.int .u64 ((wat (wordsL l n) 6 : Nat) : Int))).setCell ⟨w.heap.size + 1, 7, none⟩ (.int .u64 ((wat (wordsL l n) 7 : Nat) : Int))) :=
        (((((((hB.setCell (p := ⟨w.heap.size + 1, 0, none⟩) hsz _).setCell (p := ⟨w.heap.size + 1, 1, none⟩) hsz _).setCell (p := ⟨w.heap.size + 1, 2, none⟩) hsz _).setCell (p := ⟨w.heap.size + 1, 3, none⟩) hsz _).setCell (p := ⟨w.heap.size + 1, 4, none⟩) hsz _).setCell (p := ⟨w.heap.size + 1, 5, none⟩) hsz _).setCell (p := ⟨w.heap.size + 1, 6, none⟩) hsz _).setCell (p := ⟨w.heap.size + 1, 7, none⟩) hsz _
      have hx := Lib.hid (hfin.out _ hBf)
      clear hBf g0 g1 g2 g3 g4 g5 g6 g7 hO hRes
      go_wp2_with fail
      exact bodyPost_ret (v := aggW (wordsL l n)) (by simp [results, Try.results101, go_sem, q0, q1, q2, q3, q4, q5, q6, q7]; rfl) rfl hx.out
end Go.Proofs.Ytikjpklbbjmioaa

/-! The reference's device: value, Load, Arm. -/
namespace Go.Proofs.Ytikjpklbbjmioaa
open Go.RowKit Go.Maps
variable {w : World} {F : Own} {o h T : Nat} {R : Dv}

/-- The cells of one line, in the walk's own spelling. -/
structure LineCells (w : World) (lb i : Nat) (l : Ln) (v : Value) : Prop where
  c0 : w.cell? ⟨lb, i * 10, none⟩ = some (.int .u64 ((wat l.base 0 : Nat) : Int))
  c1 : w.cell? ⟨lb, i * 10 + 1, none⟩ = some (.int .u64 ((wat l.base 1 : Nat) : Int))
  c2 : w.cell? ⟨lb, i * 10 + 2, none⟩ = some (.int .u64 ((wat l.base 2 : Nat) : Int))
  c3 : w.cell? ⟨lb, i * 10 + 3, none⟩ = some (.int .u64 ((wat l.base 3 : Nat) : Int))
  c4 : w.cell? ⟨lb, i * 10 + 4, none⟩ = some (.int .u64 ((wat l.base 4 : Nat) : Int))
  c5 : w.cell? ⟨lb, i * 10 + 5, none⟩ = some (.int .u64 ((wat l.base 5 : Nat) : Int))
  c6 : w.cell? ⟨lb, i * 10 + 6, none⟩ = some (.int .u64 ((wat l.base 6 : Nat) : Int))
  c7 : w.cell? ⟨lb, i * 10 + 7, none⟩ = some (.int .u64 ((wat l.base 7 : Nat) : Int))
  c8 : w.cell? ⟨lb, i * 10 + 8, none⟩ = some v
  c9 : w.cell? ⟨lb, i * 10 + 9, none⟩ = some (.int .i64 (l.done : Int))
theorem RLinSt.cells {lb lc i : Nat} (hr : RLinSt w F o lb lc R) (hi : i < R.lines.length) : ∃ va vc, LineCells w lb i (R.line i) (.slice va (R.line i).hist.length vc) ∧ RdO w F (o, 2, i) (.slice va (R.line i).hist.length vc) (R.line i).hist.length (wcells (R.line i).hist) := by
  obtain ⟨cs, hv, h1, h3⟩ := hr
  obtain ⟨a, b, c, d⟩ := h3 i hi
  obtain ⟨va, vc, hva, hrd⟩ := d.1
  have at' : ∀ j u, cs[j]? = some u → w.cell? ⟨lb, j, none⟩ = some u := by
    intro j u hj
    have hl : j < R.lines.length * 10 := by
      rcases Nat.lt_or_ge j cs.length with h4 | h4
      · have := h1.1; omega
      · rw [List.getElem?_eq_none h4] at hj; cases hj
    rw [h1.cellAt j hl]; exact hj
  rw [hva] at b d
  exact ⟨va, vc, ⟨at' _ _ (a 0 (by omega)), at' _ _ (a 1 (by omega)), at' _ _ (a 2 (by omega)), at' _ _ (a 3 (by omega)), at' _ _ (a 4 (by omega)), at' _ _ (a 5 (by omega)), at' _ _ (a 6 (by omega)), at' _ _ (a 7 (by omega)), at' _ _ b, at' _ _ c⟩, d⟩
theorem LineCells.only {S : Nat → Prop} {w w' : World} {lb i : Nat} {l : Ln} {v : Value} (h : LineCells w lb i l v) (ho : Only S w w') (hs : ¬ S lb) : LineCells w' lb i l v :=
  ⟨ho.cell h.c0 hs, ho.cell h.c1 hs, ho.cell h.c2 hs, ho.cell h.c3 hs, ho.cell h.c4 hs, ho.cell h.c5 hs, ho.cell h.c6 hs, ho.cell h.c7 hs, ho.cell h.c8 hs, ho.cell h.c9 hs⟩
theorem index_agg0 (x0 x1 x2 x3 x4 x5 x6 x7 : Value) (w : World) : (Instr.index 119 (.agg #[x0, x1, x2, x3, x4, x5, x6, x7]) (.int .u64 0)).run Try.prog w = .ok x0 w := by kernel_rfl
theorem index_agg1 (x0 x1 x2 x3 x4 x5 x6 x7 : Value) (w : World) : (Instr.index 119 (.agg #[x0, x1, x2, x3, x4, x5, x6, x7]) (.int .u64 1)).run Try.prog w = .ok x1 w := by kernel_rfl
theorem index_agg2 (x0 x1 x2 x3 x4 x5 x6 x7 : Value) (w : World) : (Instr.index 119 (.agg #[x0, x1, x2, x3, x4, x5, x6, x7]) (.int .u64 2)).run Try.prog w = .ok x2 w := by kernel_rfl
theorem index_agg3 (x0 x1 x2 x3 x4 x5 x6 x7 : Value) (w : World) : (Instr.index 119 (.agg #[x0, x1, x2, x3, x4, x5, x6, x7]) (.int .u64 3)).run Try.prog w = .ok x3 w := by kernel_rfl
theorem index_agg4 (x0 x1 x2 x3 x4 x5 x6 x7 : Value) (w : World) : (Instr.index 119 (.agg #[x0, x1, x2, x3, x4, x5, x6, x7]) (.int .u64 4)).run Try.prog w = .ok x4 w := by kernel_rfl
theorem index_agg5 (x0 x1 x2 x3 x4 x5 x6 x7 : Value) (w : World) : (Instr.index 119 (.agg #[x0, x1, x2, x3, x4, x5, x6, x7]) (.int .u64 5)).run Try.prog w = .ok x5 w := by kernel_rfl
theorem index_agg6 (x0 x1 x2 x3 x4 x5 x6 x7 : Value) (w : World) : (Instr.index 119 (.agg #[x0, x1, x2, x3, x4, x5, x6, x7]) (.int .u64 6)).run Try.prog w = .ok x6 w := by kernel_rfl
theorem index_agg7 (x0 x1 x2 x3 x4 x5 x6 x7 : Value) (w : World) : (Instr.index 119 (.agg #[x0, x1, x2, x3, x4, x5, x6, x7]) (.int .u64 7)).run Try.prog w = .ok x7 w := by kernel_rfl
theorem index_agg (ws : List Nat) (j : Nat) (hj : j < 8) (w : World) : (Instr.index 119 (aggW ws) (.int .u64 (j : Int))).run Try.prog w = .ok (.int .u64 ((wat ws j : Nat) : Int)) w := by
  match j, hj with
  | 0, _ => exact index_agg0 _ _ _ _ _ _ _ _ w
  | 1, _ => exact index_agg1 _ _ _ _ _ _ _ _ w
  | 2, _ => exact index_agg2 _ _ _ _ _ _ _ _ w
  | 3, _ => exact index_agg3 _ _ _ _ _ _ _ _ w
  | 4, _ => exact index_agg4 _ _ _ _ _ _ _ _ w
  | 5, _ => exact index_agg5 _ _ _ _ _ _ _ _ w
  | 6, _ => exact index_agg6 _ _ _ _ _ _ _ _ w
  | 7, _ => exact index_agg7 _ _ _ _ _ _ _ _ w

set_option maxHeartbeats 2000000 in
set_option maxRecDepth 100000 in
theorem rvalue_any (hr : RefSt w F o h T R) {off : Nat} (hof : off < 64 * R.lines.length) :
    Calls Try.prog 106 #[.pointer (some ⟨h, 0, none⟩), .int .u64 (off : Int)] w fun e w' => e = .returned (.int .u64 ((valueP R off : Nat) : Int)) ∧ Below w.heap.size w w' := by
  have hn2 := hr.ok.n2
  have hi : off / 64 < R.lines.length := by omega
  have hok := hr.ok.ln _ hi
  have hhl := hok.hl
  have ht100 := hr.ok.t
  obtain ⟨lb, lc, ns, h1, h2, h3, _⟩ := hr.ex
  have c := h1.cell (refCells_lines lb lc ns R)
  obtain ⟨va, vc, ⟨c0, c1, c2, c3, c4, c5, c6, c7, c8, c9⟩, hrd⟩ := h2.cells hi
  have hrd := hrd.1
  have hval : valueP R off = wat (wordsL (R.line (off / 64)) (R.line (off / 64)).hist.length) (off % 64 / 8) := rfl
  rw [hval]
  have hiI : ((off / 64 : Nat) : Int) < (R.lines.length : Int) := by omega
  have hwd := fun w' (hB : Below w.heap.size w w') => words_any w' (R.line (off / 64)) (R.line (off / 64)).hist.length va vc hok.b (Nat.le_refl _) (by omega) (hrd.kept hB) (fun p hp => by obtain ⟨q1, q2, q3⟩ := hok.h p hp; omega) ((R.line (off / 64)).done : Int)
  have hix := fun w => index_agg (wordsL (R.line (off / 64)) (R.line (off / 64)).hist.length) (off % 64 / 8) (by omega) w
  rw [show ((off % 64 / 8 : Nat) : Int) = (off : Int) % 64 / 8 from by omega] at hix
  replace hwd := Lib.hid hwd
  replace hval := Lib.hid hval
  clear hr h2 h1 hok hrd
  generalize hl : R.line (off / 64) = l at *
  replace hl := Lib.hid hl
  go_enter Try.func106, Try.ntmps106
  go_wp2_with fail
  refine (hwd.out _ ((Below.refl _ _).alloc (Nat.le_refl _) _)).mono ?_
  rintro e w1 ⟨rfl, hB1⟩
  have hB2 := ((Below.refl w.heap.size w).alloc (Nat.le_refl _) _).trans (hB1.mono (by simp))
  replace hB2 := Lib.hid hB2
  clear hB1 c0 c1 c2 c3 c4 c5 c6 c7 c8 c9 c
  go_wp2_with fail
  go_ret
  exact ⟨rfl, hB2.out⟩

set_option maxHeartbeats 2000000 in
theorem rload_any (hr : RefSt w F o h T R) {t off : Nat} (ht : t < 8) (hof : off < 18446744073709551616) :
    Calls Try.prog 86 #[.pointer (some ⟨h, 0, none⟩), .int .i64 (t : Int), .int .u64 (off : Int)] w (RPost w F o h T (mayP R t (R.isB off)) (.int .u64 ((loadV R off : Nat) : Int))) := by
  generalize hpost : RPost w F o h T (mayP R t (R.isB off)) (.int .u64 ((loadV R off : Nat) : Int)) = post
  have his := Lib.hid (ris_any hr hof)
  have hma := rmay_any hr (R.isB off) ht
  by_cases hm : mayB R (R.isB off) = true
  · obtain ⟨e1, e2⟩ := mayP_full R t _ hm
    have hin : off < 64 * R.lines.length := by
      unfold Dv.isB at e2; simp only [decide_eq_true_eq] at e2; exact e2.2
    have e3 : loadV R off = valueP R off := by unfold loadV; rw [if_pos hm]
    rw [e1, e3] at hpost
    rw [hm, e1] at hma
    replace hpost := Lib.hid hpost
    replace hma := Lib.hid hma
    clear hr hm e1 e2 e3
    go_enter Try.func86, Try.ntmps86
    go_wp2_with fail
    refine his.out.mono ?_
    rintro e w' ⟨rfl, rfl⟩
    go_wp2_with fail
    refine hma.out.mono ?_
    rintro e w1 ⟨F1, rfl, h1, s1⟩
    have hv := Lib.hid (rvalue_any h1 hin)
    replace h1 := Lib.hid h1
    go_wp2_with fail
    refine hv.out.mono ?_
    rintro e w2 ⟨rfl, hB⟩
    have hfin : post (.returned (.int .u64 ((valueP R off : Nat) : Int))) w2 := by rw [← hpost.out]; exact ⟨F1, rfl, h1.out.below hB, s1.trans (Dstep.below hB)⟩
    replace hfin := Lib.hid hfin
    clear hB s1
    go_wp2_with fail
    exact hfin.out
  · have hm1 : mayB R (R.isB off) = false := by simpa using hm
    have e3 : loadV R off = 0 := by unfold loadV; rw [if_neg hm]
    rw [e3] at hpost
    rw [hm1] at hma
    replace hpost := Lib.hid hpost
    replace hma := Lib.hid hma
    clear hr hm hm1 e3
    go_enter Try.func86, Try.ntmps86
    go_wp2_with fail
    refine his.out.mono ?_
    rintro e w' ⟨rfl, rfl⟩
    go_wp2_with fail
    refine hma.out.mono ?_
    rintro e w1 ⟨F1, rfl, h1, s1⟩
    have hfin : post (.returned (.int .u64 ((0 : Nat) : Int))) w1 := by rw [← hpost.out]; exact ⟨F1, rfl, h1, s1⟩
    replace hfin := Lib.hid hfin
    clear h1 s1
    go_wp2_with fail
    exact hfin.out

theorem rarm_any (hr : RefSt w F o h T R) (n : Int) (hn : n ≤ 9223372036854775807) : Calls Try.prog 96 #[.pointer (some ⟨h, 0, none⟩), .int .i64 n] w (RPost w F o h T (armP R n) (.tuple #[])) := by
  generalize hpost : RPost w F o h T (armP R n) (.tuple #[]) = post
  obtain ⟨lb, lc, ns, h1, _⟩ := hr.ex
  have c := h1.cell (refCells_off lb lc ns R)
  have c3 := h1.cell (refCells_left lb lc ns R)
  have f3 := h1.free 17
  have okA := armP_ok hr.ok hn
  cases hoff : R.off with
  | true =>
    have e : armP R n = R := by simp [armP, hoff]
    rw [hoff] at c
    have hfin : post (.returned (.tuple #[])) w := by rw [← hpost, e]; exact ⟨F, rfl, hr, Dstep.refl _ _ _⟩
    replace hfin := Lib.hid hfin
    clear e hoff hpost hr okA h1
    go_enter Try.func96, Try.ntmps96
    go_wp2_with fail
    first | exact hfin.out | exact bodyPost_end (results_none rfl _ _ _) rfl hfin.out
  | false =>
    have e : armP R n = { R with left := max n (-1) } := by simp [armP, hoff]
    rw [hoff] at c
    rw [e] at okA
    obtain ⟨m, hm⟩ : ∃ m, max n (-1) = m := ⟨_, rfl⟩
    rw [hm] at e okA
    have hD := hr.re (R' := { R with left := m }) (Only.setAt w h 17 (.int .i64 m)) (fun lb lc ns hh => hh.set 17 (.int .i64 m)) rfl rfl okA
    have hS := (Dstep.refl w F o).set (a := ⟨h, 17, none⟩) hr.fh (.int .i64 m)
    have hfin : post (.returned (.tuple #[])) (w.setCell ⟨h, 17, none⟩ (.int .i64 m)) := by rw [← hpost, e]; exact ⟨F, rfl, hD, hS⟩
    replace hfin := Lib.hid hfin
    clear e hoff hpost hr okA hD hS h1
    by_cases hp : ¬ n < -1
    · obtain rfl : m = n := by omega
      clear hm
      go_enter Try.func96, Try.ntmps96
      go_wp2_with fail
      first | exact hfin.out | exact bodyPost_end (results_none rfl _ _ _) rfl hfin.out
    · obtain rfl : m = -1 := by omega
      clear hm
      go_enter Try.func96, Try.ntmps96
      go_wp2_with fail
      first | exact hfin.out | exact bodyPost_end (results_none rfl _ _ _) rfl hfin.out
end Go.Proofs.Ytikjpklbbjmioaa

/-! The reference's device: put, Store, CAS. -/
namespace Go.Proofs.Ytikjpklbbjmioaa
open Go.RowKit Go.Maps
variable {w : World} {F : Own} {o h T : Nat} {R : Dv}

theorem bcell2 {w w' : World} (hB : Below w.heap.size w w') {a : Addr} {v : Value} (h : w.cell? a = some v) : w'.cell? a = some v := by
  have hlt := World.block_lt_of_cell? _ _ h
  exact (hB.cell (p := a) hlt).trans h
/-- One line has changed in its block. -/
theorem RLinSt.one {w w' : World} {F F' : Own} {lb lc i : Nat} {cs cs' : List Value} {hv : Nat → Value} {S : Nat → Prop} {l : Ln} {v : Value} (hi : i < R.lines.length)
    (h3 : ∀ j, j < R.lines.length → (∀ q, q < 8 → cs[j * 10 + q]? = some (.int .u64 ((wat (R.line j).base q : Nat) : Int))) ∧ cs[j * 10 + 8]? = some (hv j) ∧ cs[j * 10 + 9]? = some (.int .i64 ((R.line j).done : Int)) ∧ RdO w F (o, 2, j) (hv j) (R.line j).hist.length (wcells (R.line j).hist))
    (hown : w'.ownsRow 0 122 10 (.slice (some ⟨lb, 0, none⟩) R.lines.length lc) R.lines.length cs') (hcs : ∀ q, (q < i * 10 ∨ i * 10 + 10 ≤ q) → cs'[q]? = cs[q]?)
    (hb : ∀ q, q < 8 → cs'[i * 10 + q]? = some (.int .u64 ((wat l.base q : Nat) : Int))) (h8 : cs'[i * 10 + 8]? = some v) (h9 : cs'[i * 10 + 9]? = some (.int .i64 (l.done : Int))) (hrd : RdO w' F' (o, 2, i) v l.hist.length (wcells l.hist))
    (ho : Only S w w') (hx : Ext w F F') (hs : ∀ k j, S k → j ≠ i → F k ≠ some (o, 2, j)) : RLinSt w' F' o lb lc (R.setLine i l) := by
  refine ⟨cs', fun j => if j = i then v else hv j, by rw [setLine_len]; exact hown, fun j hj => ?_⟩
  rw [setLine_len] at hj
  rw [setLine_line l hi]
  by_cases e : j = i
  · subst e; simp only [if_true]; exact ⟨hb, h8, h9, hrd⟩
  · obtain ⟨a, b, c, d⟩ := h3 j hj
    simp only [if_neg e]
    refine ⟨fun q hq => ?_, ?_, ?_, d.kept ho hx (fun k s => hs k j s e)⟩
    · rw [hcs _ (by omega)]; exact a q hq
    · rw [hcs _ (by omega)]; exact b
    · rw [hcs _ (by omega)]; exact c
theorem RefSt.line {w w' : World} {F F' : Own} {i T' : Nat} {l : Ln} (hr : RefSt w F o h T R) (hi : i < R.lines.length) (hk : (R.setLine i l).Ok T') {lb lc : Nat} {ns : Nat → Value}
    (h1 : Has w h (refCells lb lc ns R) 110) (h3 : F lb = some (o, 1, 0)) (h4 : ∀ t, t < 8 → RdO w F (o, 3, t) (ns t) (R.notes.getD t []).length (noteCells (R.notes.getD t [])))
    (ho : Only (fun k => k = lb) w w') (hx : Ext w F F') (hlt : lb < w.heap.size) (hl : RLinSt w' F' o lb lc (R.setLine i l)) : RefSt w' F' o h T' (R.setLine i l) := by
  have _h := hi
  have ne : ∀ {b : Nat} {r : Nat × Nat}, F b = some (o, r) → r ≠ (1, 0) → ¬ b = lb := fun hb hr' => Own.ne hb h3 (fun e => hr' (by cases e; rfl))
  refine ⟨hk, ⟨lb, lc, ns, ?_, hl, (hx _ hlt).trans h3, fun t ht => (h4 t ht).kept ho hx (fun k s e => ne e (by simp) s)⟩, (hx _ h1.lt).trans hr.fh⟩
  have : refCells lb lc ns (R.setLine i l) = refCells lb lc ns R := by unfold refCells; rw [setLine_len]; rfl
  rw [this]; exact h1.only ho (ne hr.fh (by simp))

set_option maxHeartbeats 4000000 in
set_option maxRecDepth 100000 in
theorem rput_any (hr : RefSt w F o h T R) (hT : T + 1 ≤ 100000) {off v : Nat} (hof : off < 64 * R.lines.length) (ha : off % 8 = 0) (hv : v < 18446744073709551616) :
    Calls Try.prog 52 #[.pointer (some ⟨h, 0, none⟩), .int .u64 (off : Int), .int .u64 (v : Int)] w (RPost w F o h (T + 1) (putP R off v) (.tuple #[])) := by
  generalize hpost : RPost w F o h (T + 1) (putP R off v) (.tuple #[]) = post
  replace hpost := Lib.hid hpost
  have hn2 := hr.ok.n2
  have hi : off / 64 < R.lines.length := by omega
  have hok := hr.ok.ln _ hi
  have hhl := hok.hl
  have ht100 := hr.ok.t
  have hputok := putP_ok hr.ok hT hof ha hv
  obtain ⟨lb, lc, ns, h1, h2, h3, h4⟩ := hr.ex
  have c := h1.cell (refCells_lines lb lc ns R)
  obtain ⟨cs, hv', hown, hlin⟩ := h2
  obtain ⟨x0, x8, x9, hrd⟩ := hlin _ hi
  have hcl := hown.1
  have hlbl := ownsRow_lt hown (k := lb) rfl
  obtain ⟨va, vc, hva, hrd0⟩ := hrd.1
  have c8 := hown.cellAt (off / 64 * 10 + 8) (by omega)
  rw [x8, hva] at c8
  have f8 := hown.frozenAt (off / 64 * 10 + 8)
  have hiI : ((off / 64 : Nat) : Int) < (R.lines.length : Int) := by omega
  have hE := own_empty w 165 2
  have hrdA : Rd (w.alloc (.cells #[] 165)) (.slice va (R.line (off / 64)).hist.length vc) (R.line (off / 64)).hist.length (wcells (R.line (off / 64)).hist) := by
    have := hrd.1.kept ((Below.refl _ _).alloc (Nat.le_refl _) (.cells #[] 165)); rw [hva] at this; exact this
  replace hva := Lib.hid hva
  go_enter Try.func52, Try.ntmps52
  go_wp2_with (at_builtin; refine wpList_appAll rfl (.tmp 15) (.tmp 19) 120 rfl 165 (.agg #[.int .u64 0, .int .u64 0]) 2 16 Try.underlying120 infoRW rfl (by decide) (by decide) _ 0 0 (Nat.le_refl _) [] hE rfl _ (R.line (off / 64)).hist.length vc (wcells (R.line (off / 64)).hist) rfl hrdA (wcells_len _) (wcells_one _) (by omega) ?_)
  intro sa cap w1 hcap hown1 only1 fresh1
  have hB1 : Below w.heap.size w w1 := ((Below.refl w.heap.size w).alloc (Nat.le_refl _) _).trans (only1.below (by simp) (fun k hk e => by simp [Value.ownBlock] at e; omega))
  have hA := Has.new w1 [.int .u64 (off : Int), .int .u64 (v : Int)] 165
  have A0 := hA.cell (o := 0) rfl
  have A1 := hA.cell (o := 1) rfl
  have hown1A := hown1.alloc (.cells #[.int .u64 (off : Int), .int .u64 (v : Int)] 165)
  clear hE hrdA
  go_wp2_with (at_builtin; refine wpList_app rfl (.tmp 20) (.tmp 24) 120 rfl 165 (.agg #[.int .u64 0, .int .u64 0]) 2 16 Try.underlying120 infoRW rfl (by decide) (by decide) sa _ cap _ hown1A rfl _ 1 1 [.int .u64 off, .int .u64 v] rfl rfl ?hnews (by simp [Value.oneCell']) ?hby ?_)
  case hnews =>
    intro j u hj
    match j, hj with
    | 0, hj => simp at hj; subst hj; exact A0
    | 1, hj => simp at hj; subst hj; exact A1
    | j + 2, hj => simp at hj
  case hby => omega
  intro sb capb w2 hown2 only2 fresh2
  rw [← wcells_snoc (R.line (off / 64)).hist (off, v)] at hown2
  have hs1 := hB1.size
  have hfr1 : ∀ k, Value.ownBlock (.slice sa (R.line (off / 64)).hist.length cap) = some k → w.heap.size ≤ k := by
    intro k hk
    rcases fresh1 k hk with h5 | h5
    · first | omega | (simp [Value.ownBlock] at h5; omega)
    · first | omega | (simp at h5; omega)
  have hB2 : Below w.heap.size w w2 := (hB1.alloc hs1 _).trans (only2.below (by simp; omega) (fun k _ e => hfr1 k e))
  have hfr2 : ∀ k, Value.ownBlock (.slice sb ((R.line (off / 64)).hist.length + 1) capb) = some k → w.heap.size ≤ k := by
    intro k hk
    rcases fresh2 k hk with h5 | h5
    · exact hfr1 k h5
    · have := hB1.size; first | omega | (simp at h5; omega)
  have c8' := bcell2 hB2 c8
  have f8' : w2.frozen? ⟨lb, off / 64 * 10 + 8, none⟩ = false := by rw [hB2.frozen (p := ⟨lb, off / 64 * 10 + 8, none⟩) hlbl]; exact f8
  have hown0 := ownsRow_only hown (Only.of_below hB2) (by intro k hk; cases hk; exact Nat.not_le.2 hlbl)
  have hst := (hown0.stored (off / 64 * 10 + 8) (.slice sb ((R.line (off / 64)).hist.length + 1) capb)).1
  have hrd2 : Rd (w2.setCell ⟨lb, off / 64 * 10 + 8, none⟩ (.slice sb ((R.line (off / 64)).hist.length + 1) capb)) (.slice sb ((R.line (off / 64)).hist.length + 1) capb) ((R.line (off / 64)).hist.length + 1) (wcells ((R.line (off / 64)).hist ++ [(off, v)])) :=
    (Rd.of_own hown2).only (Only.setAt w2 lb (off / 64 * 10 + 8) _) (by intro k hk e; have := hfr2 k hk; omega)
  obtain ⟨bn, hbn⟩ : ∃ bn, sb = some ⟨bn, 0, none⟩ := by
    rcases hown2.2 with ⟨_, h5⟩ | ⟨g, cp, cur, h5, _⟩
    · omega
    · simp only [Value.slice.injEq] at h5; exact ⟨g, h5.1⟩
  have hfb := hfr2 bn (by rw [hbn]; rfl)
  have hx : Ext w F (F.put bn (o, 2, off / 64)) := (Ext.refl w F).put hfb _
  have hO : Only (fun k => k = lb) w (w2.setCell ⟨lb, off / 64 * 10 + 8, none⟩ (.slice sb ((R.line (off / 64)).hist.length + 1) capb)) :=
    Only.setCell (S := fun k => k = lb) (a := ⟨lb, off / 64 * 10 + 8, none⟩) ⟨hB2.os, hB2.tape, hB2.output, hB2.size, fun k hk _ => hB2.block k hk⟩ (fun _ => rfl) _
  have hlin2 : RLinSt (w2.setCell ⟨lb, off / 64 * 10 + 8, none⟩ (.slice sb ((R.line (off / 64)).hist.length + 1) capb)) (F.put bn (o, 2, off / 64)) o lb lc (putP R off v) := by
    refine RLinSt.one (v := .slice sb ((R.line (off / 64)).hist.length + 1) capb) (hv := hv') (cs := cs) hi hlin hst ?_ ?_ ?_ ?_ ?_ hO hx ?_
    · intro q hq; rw [List.getElem?_set_ne (by omega)]
    · intro q hq; rw [List.getElem?_set_ne (by omega)]; exact x0 q hq
    · exact List.getElem?_set_self (by omega)
    · rw [List.getElem?_set_ne (by omega)]; exact x9
    · refine ⟨by simp only [putL, List.length_append, List.length_singleton]; exact hrd2, fun _ k hk => ?_, own_cap hown2⟩
      rw [hbn] at hk; cases hk; exact Own.put_at _ _ _
    · rintro k j rfl _ e; rw [h3] at e; cases e
  have hfin : post (.returned (.tuple #[])) (w2.setCell ⟨lb, off / 64 * 10 + 8, none⟩ (.slice sb ((R.line (off / 64)).hist.length + 1) capb)) := by
    rw [← hpost.out]
    exact ⟨_, rfl, hr.line hi hputok h1 h3 h4 hO hx hlbl hlin2, hx, hO.mono (by rintro k _ rfl; exact ⟨_, h3⟩)⟩
  replace hfin := Lib.hid hfin
  replace hbn := Lib.hid hbn
  clear hlin2 hO hx hrd2 hst hown0 hB2 hown2 only2 fresh2 hown1A hown1 only1 fresh1 hA A0 A1 hB1 hlin hown hr h1 h4 c c8 f8 hrd hrd0
  go_wp2_with fail
  first | exact hfin.out | exact bodyPost_end (results_none rfl _ _ _) rfl hfin.out

set_option maxHeartbeats 2000000 in
theorem rstore_any (hr : RefSt w F o h T R) (hT : T + 2 ≤ 100000) {t off v : Nat} (ht : t < 8) (hof : off < 18446744073709551616) (hv : v < 18446744073709551616) :
    Calls Try.prog 19 #[.pointer (some ⟨h, 0, none⟩), .int .i64 (t : Int), .int .u64 (off : Int), .int .u64 (v : Int)] w (RPost w F o h (T + 2) (storeP R t off v) (.tuple #[])) := by
  generalize hpost : RPost w F o h (T + 2) (storeP R t off v) (.tuple #[]) = post
  have hw := Lib.hid (ris_any hr hof)
  have hco := rcounted_any hr (by omega) (R.isB off) ht
  by_cases hm : countB R (R.isB off) = true
  · have hin : off < 64 * R.lines.length ∧ off % 8 = 0 := by
      unfold countB at hm; simp only [Bool.and_eq_true] at hm
      have := hm.1.2
      unfold Dv.isB at this; simp only [decide_eq_true_eq] at this; exact ⟨this.2, this.1⟩
    have e3 : storeP R t off v = putP (countP R t (R.isB off)) off v := by unfold storeP; rw [if_pos hm]
    have elen := (countP_lines R t (R.isB off)).1
    rw [e3] at hpost
    rw [hm] at hco
    replace hpost := Lib.hid hpost
    replace hco := Lib.hid hco
    replace elen := Lib.hid elen
    clear hr hm e3
    replace hin := Lib.hid hin
    go_enter Try.func19, Try.ntmps19
    go_wp2_with fail
    refine hw.out.mono ?_
    rintro e w' ⟨rfl, rfl⟩
    go_wp2_with fail
    refine hco.out.mono ?_
    rintro e w1 ⟨F1, rfl, h1, s1⟩
    have hwr := Lib.hid (rput_any h1 (by omega) (by rw [elen.out]; exact hin.out.1) hin.out.2 hv)
    replace h1 := Lib.hid h1
    go_wp2_with fail
    refine hwr.out.mono ?_
    rintro e w2 ⟨F2, rfl, h2, s2⟩
    have hfin : post (.returned (.tuple #[])) w2 := by rw [← hpost.out]; exact ⟨F2, rfl, h2, s1.trans s2⟩
    replace hfin := Lib.hid hfin
    clear h2 s2
    go_wp2_with fail
    first | exact hfin.out | exact bodyPost_end (results_none rfl _ _ _) rfl hfin.out
  · have hm1 : countB R (R.isB off) = false := by simpa using hm
    have e3 : storeP R t off v = countP R t (R.isB off) := by unfold storeP; rw [if_neg hm]
    rw [e3] at hpost
    rw [hm1] at hco
    replace hpost := Lib.hid hpost
    replace hco := Lib.hid hco
    clear hr hm hm1 e3
    go_enter Try.func19, Try.ntmps19
    go_wp2_with fail
    refine hw.out.mono ?_
    rintro e w' ⟨rfl, rfl⟩
    go_wp2_with fail
    refine hco.out.mono ?_
    rintro e w1 ⟨F1, rfl, h1, s1⟩
    have hfin : post (.returned (.tuple #[])) w1 := by rw [← hpost.out]; exact ⟨F1, rfl, h1.up (by omega) hT, s1⟩
    replace hfin := Lib.hid hfin
    clear h1 s1
    go_wp2_with fail
    first | exact hfin.out | exact bodyPost_end (results_none rfl _ _ _) rfl hfin.out

set_option maxHeartbeats 4000000 in
theorem rcas_any (hr : RefSt w F o h T R) (hT : T + 2 ≤ 100000) {t off old v : Nat} (ht : t < 8) (hof : off < 18446744073709551616) (hv : v < 18446744073709551616) :
    Calls Try.prog 88 #[.pointer (some ⟨h, 0, none⟩), .int .i64 (t : Int), .int .u64 (off : Int), .int .u64 (old : Int), .int .u64 (v : Int)] w (RPost w F o h (T + 2) (casP R t off old v) (.bool (casB R off old))) := by
  generalize hpost : RPost w F o h (T + 2) (casP R t off old v) (.bool (casB R off old)) = post
  have hw := Lib.hid (ris_any hr hof)
  have hco := rcounted_any hr (by omega) (R.isB off) ht
  by_cases hm : countB R (R.isB off) = true
  · have hin : off < 64 * R.lines.length ∧ off % 8 = 0 := by
      unfold countB at hm; simp only [Bool.and_eq_true] at hm
      have := hm.1.2
      unfold Dv.isB at this; simp only [decide_eq_true_eq] at this; exact ⟨this.2, this.1⟩
    have elen := (countP_lines R t (R.isB off)).1
    have hvp := valueP_count R t (R.isB off) off
    have e3 : casB R off old = decide (valueP R off = old) := by unfold casB; rw [hm]; rfl
    have e4 : casP R t off old v = if valueP R off = old then putP (countP R t (R.isB off)) off v else countP R t (R.isB off) := by unfold casP; rw [e3]; simp
    rw [hm] at hco
    replace hco := Lib.hid hco
    replace elen := Lib.hid elen
    replace hvp := Lib.hid hvp
    clear hr hm
    replace hin := Lib.hid hin
    by_cases hq : valueP R off = old
    · rw [e3, e4, if_pos hq, decide_eq_true hq] at hpost
      replace hpost := Lib.hid hpost
      clear e3 e4
      replace hq := Lib.hid hq
      go_enter Try.func88, Try.ntmps88
      go_wp2_with fail
      refine hw.out.mono ?_
      rintro e w' ⟨rfl, rfl⟩
      go_wp2_with fail
      refine hco.out.mono ?_
      rintro e w1 ⟨F1, rfl, h1, s1⟩
      have hva := rvalue_any h1 (by rw [elen.out]; exact hin.out.1)
      rw [hvp.out, hq.out] at hva
      replace hva := Lib.hid hva
      replace h1 := Lib.hid h1
      go_wp2_with fail
      refine hva.out.mono ?_
      rintro e w2 ⟨rfl, hB⟩
      have h2 := h1.out.below hB
      have hwr := Lib.hid (rput_any h2 (by omega) (by rw [elen.out]; exact hin.out.1) hin.out.2 hv)
      replace h2 := Lib.hid h2
      replace hB := Lib.hid hB
      go_wp2_with fail
      refine hwr.out.mono ?_
      rintro e w3 ⟨F3, rfl, h3, s3⟩
      have hfin : post (.returned (.bool true)) w3 := by rw [← hpost.out]; exact ⟨F3, rfl, h3, (s1.trans (Dstep.below hB.out)).trans s3⟩
      replace hfin := Lib.hid hfin
      clear h3 s3
      go_wp2_with fail
      exact hfin.out
    · rw [e3, e4, if_neg hq, decide_eq_false hq] at hpost
      replace hpost := Lib.hid hpost
      clear e3 e4
      have hqI : ((valueP R off : Nat) : Int) ≠ (old : Int) := by omega
      have hqb : (((valueP R off : Nat) : Int) == (old : Int)) = false := by rw [beq_eq_false_iff_ne]; exact hqI
      have hqn : (((valueP R off : Nat) : Int) != (old : Int)) = true := by rw [bne_iff_ne]; exact hqI
      go_enter Try.func88, Try.ntmps88
      go_wp2_with fail
      refine hw.out.mono ?_
      rintro e w' ⟨rfl, rfl⟩
      go_wp2_with fail
      refine hco.out.mono ?_
      rintro e w1 ⟨F1, rfl, h1, s1⟩
      have hva := rvalue_any h1 (by rw [elen.out]; exact hin.out.1)
      rw [hvp.out] at hva
      replace hva := Lib.hid hva
      replace h1 := Lib.hid h1
      go_wp2_with fail
      refine hva.out.mono ?_
      rintro e w2 ⟨rfl, hB⟩
      have hfin : post (.returned (.bool false)) w2 := by rw [← hpost.out]; exact ⟨F1, rfl, (h1.out.below hB).up (by omega) hT, s1.trans (Dstep.below hB)⟩
      replace hfin := Lib.hid hfin
      clear hB
      go_wp2_with fail
      exact hfin.out
  · have hm1 : countB R (R.isB off) = false := by simpa using hm
    have e3 : casB R off old = false := by unfold casB; rw [hm1]; rfl
    have e4 : casP R t off old v = countP R t (R.isB off) := by unfold casP; rw [e3]; simp
    rw [e3, e4] at hpost
    rw [hm1] at hco
    replace hpost := Lib.hid hpost
    replace hco := Lib.hid hco
    clear hr hm hm1 e3 e4
    go_enter Try.func88, Try.ntmps88
    go_wp2_with fail
    refine hw.out.mono ?_
    rintro e w' ⟨rfl, rfl⟩
    go_wp2_with fail
    refine hco.out.mono ?_
    rintro e w1 ⟨F1, rfl, h1, s1⟩
    have hfin : post (.returned (.bool false)) w1 := by rw [← hpost.out]; exact ⟨F1, rfl, h1.up (by omega) hT, s1⟩
    replace hfin := Lib.hid hfin
    clear h1 s1
    go_wp2_with fail
    exact hfin.out
end Go.Proofs.Ytikjpklbbjmioaa
