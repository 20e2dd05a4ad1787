/- Further events make stores mandatory, and change nothing else (plain). -/
import Derived.Test.YtjmdibgncaljaaaO16
import Derived.Test.YtjmdibgncaljaaaQ2
namespace Go.Proofs.Ytjmdibgncaljaaa

/-- R' goes on from R. -/
structure Ext (R R' : Rn) : Prop where
  n : R'.G.n = R.G.n
  ws : ∃ more, R'.G.ws = R.G.ws ++ more
  rk : ∀ i, i < R.G.ws.length → R'.G.rk.getD i 0 = R.G.rk.getD i 0
  md : ∀ l, R.G.md.getD l 0 ≤ R'.G.md.getD l 0
theorem Ext.refl (R : Rn) : Ext R R := ⟨rfl, ⟨[], by simp⟩, fun _ _ => rfl, fun _ => Nat.le_refl _⟩
theorem Ext.trans {A B C : Rn} (h : Ext A B) (k : Ext B C) : Ext A C := by
  obtain ⟨m1, e1⟩ := h.ws
  obtain ⟨m2, e2⟩ := k.ws
  refine ⟨k.n.trans h.n, ⟨m1 ++ m2, by rw [e2, e1, List.append_assoc]⟩, fun i hi => (k.rk i (by rw [e1]; simp; omega)).trans (h.rk i hi), fun l => Nat.le_trans (h.md l) (k.md l)⟩
theorem ext_store (R : Rn) (off v : Nat) (rl : R.G.rk.length = R.G.ws.length) : Ext R (storeP R off v) := by
  refine ⟨rfl, ⟨[(off, v)], rfl⟩, fun i hi => ?_, fun _ => Nat.le_refl _⟩
  show (R.G.rk ++ [R.G.ct.getD (off / 64) 0]).getD i 0 = _
  rw [List.getD, List.getElem?_append_left (by omega)]; rfl
theorem ext_exec {R : Rn} {T : Nat} (ok : R.Ok T) (e : Ev) : Ext R (execP R e) := by
  unfold execP
  split
  · split
    · exact ext_store R _ _ ok.rl
    · exact Ext.refl R
  split
  · split
    · exact ext_store R _ _ ok.rl
    · exact Ext.refl R
  split
  · split
    · exact ⟨rfl, ⟨[], by simp [noteP]⟩, fun _ _ => rfl, fun _ => Nat.le_refl _⟩
    · exact Ext.refl R
  split
  · refine ⟨rfl, ⟨[], by simp [fenceP]⟩, fun _ _ => rfl, fun l => ?_⟩
    show R.G.md.getD l 0 ≤ (fenceL R e.t).getD l 0
    by_cases hl : l < R.G.n
    · rw [fenceL_get R e.t l hl]
      split
      · exact Nat.le_refl _
      · exact Nat.le_max_left _ _
    · have : R.G.md.getD l 0 = 0 := by rw [List.getD, List.getElem?_eq_none (by rw [ok.ml]; omega)]; rfl
      omega
  split
  · split
    · rename_i hh
      refine ⟨rfl, ⟨[], by simp [backP]⟩, fun _ _ => rfl, fun l => ?_⟩
      show R.G.md.getD l 0 ≤ (R.G.md.set e.line (R.G.md.getD e.line 0 + e.n.toNat)).getD l 0
      rw [getD_set_nat _ _ _ _ (by rw [ok.ml]; exact hh.1)]
      split
      · subst_vars; omega
      · exact Nat.le_refl _
    · exact Ext.refl R
  · exact Ext.refl R
theorem runP_ok (n : Nat) (h1 : 1 ≤ n) (h2 : n ≤ 4096) (es : List Ev) (hl : es.length ≤ 20000) (hf : ∀ e ∈ es, e.Fit) : (runP n es).Ok es.length := by
  induction es using snoc_ind with
  | h0 => exact initR_ok n h1 h2
  | h1 es e ih =>
    have ih := ih (by simp at hl; omega) (fun e he => hf e (by simp [he]))
    rw [runP_snoc, List.length_append, List.length_singleton]
    exact execP_ok ih (by simp at hl; omega) (hf e (by simp))
theorem ext_run (n : Nat) (h1 : 1 ≤ n) (h2 : n ≤ 4096) (es more : List Ev) (hl : (es ++ more).length ≤ 20000) (hf : ∀ e ∈ es ++ more, e.Fit) : Ext (runP n es) (runP n (es ++ more)) := by
  induction more using snoc_ind with
  | h0 => rw [List.append_nil]; exact Ext.refl _
  | h1 more e ih =>
    rw [← List.append_assoc] at hl hf ⊢
    have ih := ih (by simp at hl ⊢; omega) (fun e he => hf e (List.mem_append_left _ he))
    rw [runP_snoc]
    exact ih.trans (ext_exec (runP_ok n h1 h2 (es ++ more) (by simp at hl ⊢; omega) (fun e he => hf e (List.mem_append_left _ he))) e)

theorem Ext.get {R R' : Rn} (h : Ext R R') (i : Nat) (hi : i < R.G.ws.length) : R'.G.ws.getD i (0, 0) = R.G.ws.getD i (0, 0) := by
  obtain ⟨m, e⟩ := h.ws
  rw [e, List.getD, List.getElem?_append_left hi]; rfl
theorem Ext.len {R R' : Rn} (h : Ext R R') : R.G.ws.length ≤ R'.G.ws.length := by
  obtain ⟨m, e⟩ := h.ws
  rw [e]; simp
theorem Ext.line {R R' : Rn} (h : Ext R R') (i : Nat) (hi : i < R.G.ws.length) : R'.G.line i = R.G.line i := by
  unfold Gr.line; rw [h.get i hi]
theorem Ext.must {R R' : Rn} (h : Ext R R') (i : Nat) (hi : i < R.G.ws.length) (hm : R.G.must i = true) : R'.G.must i = true := by
  unfold Gr.must at *
  rw [decide_eq_true_eq] at *
  rw [h.rk i hi, h.line i hi]
  have := h.md (R.G.line i)
  omega
theorem Ext.before {R R' : Rn} (h : Ext R R') (i j : Nat) (hi : i < R.G.ws.length) (hj : j < R.G.ws.length) : R'.G.before i j = (R.G.before i j || R'.G.must i) := by
  have hl := h.len
  have hm := h.must i hi
  unfold Gr.before
  rw [decide_eq_true (show 0 ≤ (i : Int) ∧ (i : Int) < R'.G.ws.length by omega), decide_eq_true (show 0 ≤ (j : Int) ∧ (j : Int) < R'.G.ws.length by omega),
    decide_eq_true (show 0 ≤ (i : Int) ∧ (i : Int) < R.G.ws.length by omega), decide_eq_true (show 0 ≤ (j : Int) ∧ (j : Int) < R.G.ws.length by omega)]
  simp only [Int.toNat_natCast, Bool.and_self, Bool.true_and, h.line i hi, h.line j hj]
  cases hm1 : R'.G.must i with
  | true => simp
  | false =>
    have : R.G.must i = false := by
      cases hq : R.G.must i with
      | true => rw [hm hq] at hm1; cases hm1
      | false => rfl
    rw [this]; simp
theorem contains_cut (G : Gr) (i : Nat) (hi : i < G.ws.length) : (natsI (cutL G G.md)).contains (i : Int) = G.must i := by
  rw [Bool.eq_iff_iff, List.contains_iff_mem, mem_natsI, mem_cutL]
  unfold Gr.must
  rw [decide_eq_true_eq]
  exact ⟨fun h => h.2, fun h => ⟨hi, h⟩⟩
end Go.Proofs.Ytjmdibgncaljaaa
