/- The program's device: Copy, its states. -/
import Derived.Test.YtikjpklbbjmioaaC1
import Derived.Test.YtikjpklbbjmioaaH5
namespace Go.Proofs.Ytikjpklbbjmioaa
open Go.RowKit Go.Maps
variable {w w' : World} {F F' : Own} {o T : Nat} {L : Lay} {R Q : Dv} {ps cs : List Nat}

/-- A device in the making: its words are said apart. -/
structure DevM (w : World) (F : Own) (o : Nat) (L : Lay) (T : Nat) (R : Dv) (ps cs : List Nat) : Prop where
  dev : Has w L.g (devCells L R) 94
  fg : F L.g = some (o, 0, 0)
  per : w.ownsRow 0 22 1 (.slice (some ⟨L.pb, 0, none⟩) (R.lines.length * 8) L.pc) (R.lines.length * 8) (u64s ps)
  fp : F L.pb = some (o, 1, 0)
  cur : w.ownsRow 0 22 1 (.slice (some ⟨L.cb, 0, none⟩) (R.lines.length * 8) L.cc) (R.lines.length * 8) (u64s cs)
  fc : F L.cb = some (o, 2, 0)
  lin : LinSt w F o L.lb R
  fl : F L.lb = some (o, 3, 0)
  thr : ∀ t, t < 8 → Has w (L.tb t) (thrCells L R t) 97 ∧ F (L.tb t) = some (o, 5, t)
  nov : ∀ t, t < 8 → NoteV w (L.nb t) T R.lines.length (noteF (R.notes.getD t [])) ∧ F (L.nb t) = some (o, 6, t)
theorem DevSt.m (h : DevSt w F o L T R) : DevM w F o L T R R.perW R.curW := ⟨h.dev, h.fg, h.per, h.fp, h.cur, h.fc, h.lin, h.fl, h.thr, h.nov⟩
theorem DevM.st (h : DevM w F o L T R R.perW R.curW) (hk : R.Ok T) : DevSt w F o L T R := ⟨hk, h.dev, h.fg, h.per, h.fp, h.cur, h.fc, h.lin, h.fl, h.thr, h.nov⟩
theorem DevM.lbl (h : DevM w F o L T R ps cs) : L.lb < w.heap.size := by obtain ⟨cs, hv, h1, _⟩ := h.lin; exact h1.lt
theorem DevM.kept {S : Nat → Prop} (h : DevM w F o L T R ps cs) (ho : Only S w w') (hx : Ext w F F') (hs : ∀ k r, S k → F k ≠ some (o, r)) : DevM w' F' o L T R ps cs := by
  have e : ∀ {b r}, F b = some (o, r) → b < w.heap.size → F' b = some (o, r) := fun h1 h2 => (hx _ h2).trans h1
  refine ⟨h.dev.only ho (fun s => hs _ _ s h.fg), e h.fg h.dev.lt, ownsRow_only h.per ho ?_, e h.fp (ownsRow_lt h.per rfl), ownsRow_only h.cur ho ?_, e h.fc (ownsRow_lt h.cur rfl),
    h.lin.kept h.fl ho hx (fun k s => ⟨hs k _ s, fun i => hs k _ s⟩), e h.fl h.lbl, fun t ht => ?_, fun t ht => ?_⟩
  · rintro k hk s; cases hk; exact hs _ _ s h.fp
  · rintro k hk s; cases hk; exact hs _ _ s h.fc
  · obtain ⟨h1, h2⟩ := h.thr t ht; exact ⟨h1.only ho (fun s => hs _ _ s h2), e h2 h1.lt⟩
  · obtain ⟨h1, h2⟩ := h.nov t ht; exact ⟨h1.only ho (fun s => hs _ _ s h2), e h2 h1.lt⟩
theorem DevM.below (h : DevM w F o L T R ps cs) (hb : Below w.heap.size w w') (hx : Ext w F F') : DevM w' F' o L T R ps cs :=
  have hO : Only (fun _ => False) w w' := ⟨hb.os, hb.tape, hb.output, hb.size, fun k hk _ => hb.block k hk⟩
  h.kept hO hx (fun _ _ s => s.elim)
/-- Only the lines' block has changed. -/
theorem DevM.line (h : DevM w F o L T R ps cs) {i : Nat} {l : Ln} (hl : LinSt w' F' o L.lb (R.setLine i l)) (ho : Only (fun k => k = L.lb) w w') (hx : Ext w F F') : DevM w' F' o L T (R.setLine i l) ps cs := by
  have e : ∀ {b r}, F b = some (o, r) → b < w.heap.size → F' b = some (o, r) := fun h1 h2 => (hx _ h2).trans h1
  have ne : ∀ {b : Nat} {r : Nat × Nat}, F b = some (o, r) → r ≠ (3, 0) → ¬ b = L.lb := fun hb hr => Own.ne hb h.fl (fun e => hr (by cases e; rfl))
  have elen : (R.setLine i l).lines.length = R.lines.length := setLine_len _ _ _
  refine ⟨?_, e h.fg h.dev.lt, ?_, e h.fp (ownsRow_lt h.per rfl), ?_, e h.fc (ownsRow_lt h.cur rfl), hl, e h.fl h.lbl, fun t ht => ?_, fun t ht => ?_⟩
  · have : devCells L (R.setLine i l) = devCells L R := by unfold devCells; rw [elen]; rfl
    rw [this]; exact h.dev.only ho (ne h.fg (by simp))
  · rw [elen]; exact ownsRow_only h.per ho (by rintro k hk; cases hk; exact ne h.fp (by simp))
  · rw [elen]; exact ownsRow_only h.cur ho (by rintro k hk; cases hk; exact ne h.fc (by simp))
  · obtain ⟨h1, h2⟩ := h.thr t ht; exact ⟨h1.only ho (ne h2 (by simp)), e h2 h1.lt⟩
  · obtain ⟨h1, h2⟩ := h.nov t ht; rw [elen]; exact ⟨h1.only ho (ne h2 (by simp)), e h2 h1.lt⟩
/-- The current words have been copied. -/
theorem DevM.words (h : DevM w F o L T R ps cs) {cs' : List Nat} (hl : w'.ownsRow 0 22 1 (.slice (some ⟨L.cb, 0, none⟩) (R.lines.length * 8) L.cc) (R.lines.length * 8) (u64s cs')) (ho : Only (fun k => k = L.cb) w w') : DevM w' F o L T R ps cs' := by
  have ne : ∀ {b : Nat} {r : Nat × Nat}, F b = some (o, r) → r ≠ (2, 0) → ¬ b = L.cb := fun hb hr => Own.ne hb h.fc (fun e => hr (by cases e; rfl))
  refine ⟨h.dev.only ho (ne h.fg (by simp)), h.fg, ownsRow_only h.per ho (by rintro k hk; cases hk; exact ne h.fp (by simp)), h.fp, hl, h.fc,
    h.lin.kept (S := fun k => k = L.cb) h.fl ho (Ext.refl _ _) (fun k s => ?_), h.fl, fun t ht => ⟨(h.thr t ht).1.only ho (ne (h.thr t ht).2 (by simp)), (h.thr t ht).2⟩, fun t ht => ⟨(h.nov t ht).1.only ho (ne (h.nov t ht).2 (by simp)), (h.nov t ht).2⟩⟩
  rw [s, h.fc]; exact ⟨by simp, fun i => by simp⟩
/-- The device's own block has changed. -/
theorem DevM.own (h : DevM w F o L T R ps cs) {R' : Dv} (hd : Has w' L.g (devCells L R') 94) (ho : Only (fun k => k = L.g) w w') (hl : R'.lines = R.lines) (hn : R'.notes = R.notes) (he : R'.errs = R.errs) : DevM w' F o L T R' ps cs := by
  have ne : ∀ {b : Nat} {r : Nat × Nat}, F b = some (o, r) → r ≠ (0, 0) → ¬ b = L.g := fun hb hr => Own.ne hb h.fg (fun e => hr (by cases e; rfl))
  have hlin : LinSt w F o L.lb R' := by
    obtain ⟨c, hv, h1, h2, h3⟩ := h.lin
    refine ⟨c, hv, h1, by rw [hl]; exact h2, fun i hi => ?_⟩
    rw [hl] at hi
    have := h3 i hi
    unfold Dv.line at this ⊢
    rw [hl]; exact this
  refine ⟨hd, h.fg, by rw [hl]; exact ownsRow_only h.per ho (by rintro k hk; cases hk; exact ne h.fp (by simp)), h.fp, by rw [hl]; exact ownsRow_only h.cur ho (by rintro k hk; cases hk; exact ne h.fc (by simp)), h.fc,
    hlin.kept (S := fun k => k = L.g) h.fl ho (Ext.refl _ _) (fun k s => ?_), h.fl, fun t ht => ?_, fun t ht => ⟨by rw [hl, hn]; exact (h.nov t ht).1.only ho (ne (h.nov t ht).2 (by simp)), (h.nov t ht).2⟩⟩
  · rw [s, h.fg]; exact ⟨by simp, fun i => by simp⟩
  · have : thrCells L R' t = thrCells L R t := by unfold thrCells; rw [he]
    rw [this]; exact ⟨(h.thr t ht).1.only ho (ne (h.thr t ht).2 (by simp)), (h.thr t ht).2⟩

/-! ### the lines copied one after another -/
def midL (R Q : Dv) (i : Nat) : Dv := (List.range i).foldl (fun (Q : Dv) (j : Nat) => Q.setLine j (R.line j)) Q
theorem midL_zero (R Q : Dv) : midL R Q 0 = Q := rfl
theorem midL_succ (R Q : Dv) (i : Nat) : midL R Q (i + 1) = (midL R Q i).setLine i (R.line i) := by
  unfold midL; rw [List.range_succ, List.foldl_append]; rfl
theorem midL_len (R Q : Dv) : ∀ i, (midL R Q i).lines.length = Q.lines.length
  | 0 => rfl
  | i + 1 => by rw [midL_succ, setLine_len, midL_len R Q i]
theorem midL_line (R Q : Dv) : ∀ i, i ≤ Q.lines.length → ∀ j, (midL R Q i).line j = if j < i then R.line j else Q.line j
  | 0, _, j => by rw [midL_zero, if_neg (by omega)]
  | i + 1, hi, j => by
    rw [midL_succ, setLine_line _ (by rw [midL_len]; omega), midL_line R Q i (by omega)]
    by_cases e : j = i
    · subst e; rw [if_pos rfl, if_pos (by omega)]
    · rw [if_neg e]
      by_cases h2 : j < i
      · rw [if_pos h2, if_pos (by omega)]
      · rw [if_neg h2, if_neg (by omega)]
theorem midL_rest (R Q : Dv) : ∀ i, (midL R Q i).notes = Q.notes ∧ (midL R Q i).errs = Q.errs ∧ (midL R Q i).left = Q.left ∧ (midL R Q i).off = Q.off ∧ (midL R Q i).exe = Q.exe
  | 0 => ⟨rfl, rfl, rfl, rfl, rfl⟩
  | i + 1 => by rw [midL_succ]; exact midL_rest R Q i
theorem midL_all (R Q : Dv) (h : Q.lines.length = R.lines.length) : (midL R Q R.lines.length).lines = R.lines :=
  lines_ext (by rw [midL_len, h]) (fun j hj => by have := midL_line R Q R.lines.length (by omega) j; rw [if_pos (by rw [midL_len, h] at hj; exact hj)] at this; exact this)
/-- The first t threads copied, too. -/
def upto {α : Type} (xs ys : List α) (t : Nat) : List α := xs.take t ++ ys.drop t
theorem upto_zero {α : Type} (xs ys : List α) : upto xs ys 0 = ys := rfl
theorem upto_all {α : Type} (xs ys : List α) (h : ys.length = xs.length) : upto xs ys xs.length = xs := by unfold upto; rw [List.take_length, List.drop_eq_nil_of_le (by omega), List.append_nil]
theorem upto_get {α : Type} (xs ys : List α) (t j : Nat) (d : α) (h : t ≤ xs.length) (h2 : ys.length = xs.length) : (upto xs ys t).getD j d = if j < t then xs.getD j d else ys.getD j d := by
  unfold upto
  rw [List.getD_eq_getElem?_getD, List.getD_eq_getElem?_getD, List.getD_eq_getElem?_getD]
  have hl : (xs.take t).length = t := by rw [List.length_take]; omega
  by_cases e : j < t
  · rw [if_pos e, List.getElem?_append_left (by omega), List.getElem?_take, if_pos e]
  · rw [if_neg e, List.getElem?_append_right (by omega), hl, List.getElem?_drop, show t + (j - t) = j by omega]
def mid8 (R Q : Dv) (t : Nat) : Dv := ⟨Q.lines, upto R.notes Q.notes t, upto R.errs Q.errs t, Q.left, Q.off, Q.exe⟩
theorem mid8_zero (R Q : Dv) : mid8 R Q 0 = Q := rfl
theorem mid8_line (R Q : Dv) (t j : Nat) : (mid8 R Q t).line j = Q.line j := rfl

/-- The first i lines are copied. -/
structure Cp1 (w : World) (F : Own) (o : Nat) (L : Lay) (T : Nat) (R : Dv) (o2 : Nat) (L2 : Lay) (Q : Dv) (i : Nat) (wr : World) : Prop where
  ex : ∃ Fr, DevSt wr Fr o L T R ∧ DevM wr Fr o2 L2 0 (midL R Q i) R.perW R.curW ∧ Ext w F Fr
  b : Below w.heap.size w wr
variable {o2 : Nat} {L2 : Lay}
theorem Ext.to {F1 F2 : Own} {w1 : World} (h : Ext w F F1) (hs : w.heap.size ≤ w1.heap.size) (h2 : Ext w1 F1 F2) : Ext w F F2 := fun k hk => (h2 k (by omega)).trans (h k hk)
theorem Cp1.below {i : Nat} {wr wx : World} (h : Cp1 w F o L T R o2 L2 Q i wr) (hb : Below wr.heap.size wr wx) : Cp1 w F o L T R o2 L2 Q i wx := by
  obtain ⟨Fr, h1, h2, h3⟩ := h.ex
  exact ⟨⟨Fr, h1.below hb, h2.below hb (Ext.refl _ _), h3⟩, h.b.trans (hb.mono h.b.size)⟩
theorem Cp1.lb_ge {i : Nat} {wr : World} (hw : w.heap.size ≤ L2.lb) (h : Cp1 w F o L T R o2 L2 Q i wr) (k : Nat) (hk : k = L2.lb) : w.heap.size ≤ k := by have _ := h.b; omega
theorem Cp1.step {i : Nat} {wr w1 : World} (h : Cp1 w F o L T R o2 L2 Q i wr) (hn : o ≠ o2) (hw : w.heap.size ≤ L2.lb) (hq : Q.lines.length = R.lines.length) (hi : i < R.lines.length) (hb : Below wr.heap.size wr w1) {va : Option Addr} {vc : Nat}
    (hown : w1.ownsRow 0 144 2 (.slice va (R.line i).hist.length vc) (R.line i).hist.length (wcells (R.line i).hist)) (hfr : ∀ k, Value.ownBlock (.slice va (R.line i).hist.length vc) = some k → wr.heap.size ≤ k) :
    Cp1 w F o L T R o2 L2 Q (i + 1) ((w1.setCell ⟨L2.lb, i * 2, none⟩ (.int .u64 ((R.line i).done : Int))).setCell ⟨L2.lb, i * 2 + 1, none⟩ (.slice va (R.line i).hist.length vc)) := by
  obtain ⟨Fr, h1, h2, h3⟩ := h.ex
  have hwr := h.b.size
  have hlb := h2.lbl
  have O : Only (fun k => k = L2.lb) wr ((w1.setCell ⟨L2.lb, i * 2, none⟩ (.int .u64 ((R.line i).done : Int))).setCell ⟨L2.lb, i * 2 + 1, none⟩ (.slice va (R.line i).hist.length vc)) :=
    Only.setCell (S := fun k => k = L2.lb) (Only.setCell (S := fun k => k = L2.lb) (((Only.refl (fun _ => False) wr).trans' (Only.of_below hb) (fun k hk s => by omega)).mono (fun _ _ s => s.elim)) (a := ⟨L2.lb, i * 2, none⟩) (fun _ => rfl) _) (a := ⟨L2.lb, i * 2 + 1, none⟩) (fun _ => rfl) _
  let F' : Own := fun k => if k < wr.heap.size then Fr k else if Value.ownBlock (.slice va (R.line i).hist.length vc) = some k then some (o2, 4, i) else none
  have hx : Ext wr Fr F' := fun k hk => if_pos hk
  refine ⟨⟨F', h1.kept O hx (fun k r s e => by rw [s, h2.fl] at e; cases e; exact hn rfl), ?_, h3.to hwr hx⟩, h.b.trans (O.below hwr (fun k _ s => by rw [s]; exact hw))⟩
  rw [midL_succ]
  refine h2.line ?_ O hx
  obtain ⟨c, hv, a1, a2, a3⟩ := h2.lin
  have hml := midL_len R Q i
  have hne : ∀ k, Value.ownBlock (.slice va (R.line i).hist.length vc) = some k → k ≠ L2.lb := fun k hk e => by have := hfr k hk; omega
  have A1 := a1.only (Only.of_below hb) (by omega)
  refine LinSt.one (S := fun k => k = L2.lb) (cs' := ((c.set (i * 2) (.int .u64 ((R.line i).done : Int))).set (i * 2 + 1) (.slice va (R.line i).hist.length vc))) (v := .slice va (R.line i).hist.length vc) (by omega) a2 a3 ((A1.set _ _).set _ _) (by simp) ?_ ?_ ?_ ?_ ?_ O hx ?_
  · intro j e1 e2; rw [List.getElem?_set_ne (by omega), List.getElem?_set_ne (by omega)]
  · rw [List.getElem?_set_ne (by omega), List.getElem?_set_self (by omega)]
  · rw [List.getElem?_set_self (by rw [List.length_set]; omega)]
  · have := SubV.of_own (ownsRow_only hown (Only.setCell (S := fun k => k = L2.lb) (Only.setCell (S := fun k => k = L2.lb) (Only.refl (fun k => k = L2.lb) w1) (a := ⟨L2.lb, i * 2, none⟩) (fun _ => rfl) (.int .u64 ((R.line i).done : Int))) (a := ⟨L2.lb, i * 2 + 1, none⟩) (fun _ => rfl) (.slice va (R.line i).hist.length vc)) (fun k hk e => hne k hk e))
    exact this
  · intro k hk
    have := hfr k hk
    simp only [F', if_neg (show ¬ k < wr.heap.size by omega), hk, if_true]
  · intro k j s _ e; rw [s, h2.fl] at e; cases e
end Go.Proofs.Ytikjpklbbjmioaa
