/- The reference's Run. -/
import Derived.Test.YtpgjpoilcdkjgaaO18
import Derived.Test.YtpgjpoilcdkjgaaO16
namespace Go.Proofs.Ytpgjpoilcdkjgaa
open Go.RowKit

theorem info57 : (Try.prog.info? 57).map (fun i => (i.zero, i.size, i.bytes)) = some (some (.agg #[.int .i64 0, .int .u64 0, .int .u64 0, .bool false]), 4, 32) := by kernel_rfl
theorem info131 : (Try.prog.info? 131).map (fun i => (i.zero, i.size, i.bytes)) = some (some (.agg #[.int .i64 0, .int .i64 0, .int .i64 0]), 3, 24) := by kernel_rfl
theorem info42 : (Try.prog.info? 42).map (fun i => (i.zero, i.size, i.bytes)) = some (some (.int .u64 0), 1, 8) := by kernel_rfl

def Ev.rcells (e : Ev) : List Value := [.int .i64 (e.k : Int), .int .i64 (e.t : Int), .int .u64 (e.off : Int), .int .u64 (e.val : Int), .int .u64 (e.old : Int), .int .i64 (e.line : Int), .int .i64 e.n, .int .i64 0]
def reCells (es : List Ev) : List Value := es.flatMap Ev.rcells
theorem reCells_get : ∀ (es : List Ev) (i : Nat) (e : Ev), es[i]? = some e → ∀ j v, e.rcells[j]? = some v → (reCells es)[i * 8 + j]? = some v
  | q :: es, 0, e, h, j, v, hj => by
    simp at h
    subst h
    have hl : j < q.rcells.length := by
      rcases Nat.lt_or_ge j q.rcells.length with h1 | h1
      · exact h1
      · rw [List.getElem?_eq_none h1] at hj; cases hj
    simp only [reCells, List.flatMap_cons, Nat.zero_mul, Nat.zero_add]
    rw [List.getElem?_append_left hl]; exact hj
  | q :: es, i + 1, e, h, j, v, hj => by
    have := reCells_get es i e (by simpa using h) j v hj
    have e1 : (i + 1) * 8 + j = q.rcells.length + (i * 8 + j) := by show _ = 8 + _; omega
    simp only [reCells, List.flatMap_cons]
    rw [e1, List.getElem?_append_right (by omega), Nat.add_sub_cancel_left]
    exact this
  | [], _, _, h, _, _, _ => by simp at h
def fCell (f : Nat × Nat × Nat) : List Value := [.int .i64 (f.1 : Int), .int .i64 (f.2.1 : Int), .int .i64 (f.2.2 : Int)]
def fCells (l : List (Nat × Nat × Nat)) : List Value := l.flatMap fCell
theorem fCells_get : ∀ (l : List (Nat × Nat × Nat)) (i : Nat) (f : Nat × Nat × Nat), l[i]? = some f → ∀ j v, (fCell f)[j]? = some v → (fCells l)[i * 3 + j]? = some v
  | q :: l, 0, f, h, j, v, hj => by
    simp at h
    subst h
    have hl : j < (fCell q).length := by
      rcases Nat.lt_or_ge j (fCell q).length with h1 | h1
      · exact h1
      · rw [List.getElem?_eq_none h1] at hj; cases hj
    simp only [fCells, List.flatMap_cons, Nat.zero_mul, Nat.zero_add]
    rw [List.getElem?_append_left hl]; exact hj
  | q :: l, i + 1, f, h, j, v, hj => by
    have := fCells_get l i f (by simpa using h) j v hj
    have e1 : (i + 1) * 3 + j = (fCell q).length + (i * 3 + j) := by show _ = 3 + _; omega
    simp only [fCells, List.flatMap_cons]
    rw [e1, List.getElem?_append_right (by omega), Nat.add_sub_cancel_left]
    exact this
  | [], _, _, h, _, _, _ => by simp at h
theorem fCells_snoc (l : List (Nat × Nat × Nat)) (f : Nat × Nat × Nat) : fCells (l ++ [f]) = fCells l ++ fCell f := by simp [fCells]
theorem sCells_snoc (l : List RSt) (s : RSt) : sCells (l ++ [s]) = sCells l ++ s.cells := by simp [sCells]
def u64s (l : List Nat) : List Value := l.map fun (n : Nat) => .int .u64 (n : Int)
theorem u64s_get (l : List Nat) (i n : Nat) (h : l[i]? = some n) : (u64s l)[i]? = some (.int .u64 (n : Int)) := by simp [u64s, h]
theorem u64s_set (l : List Nat) (i v : Nat) : u64s (l.set i v) = (u64s l).set i (.int .u64 (v : Int)) := by unfold u64s; rw [List.map_set]

def refRunP (n : Nat) (es : List Ev) : RRun := es.foldl (refStep n) ⟨List.replicate (8 * n) 0, [], []⟩
theorem refRunP_snoc (n : Nat) (es : List Ev) (e : Ev) : refRunP n (es ++ [e]) = refStep n (refRunP n es) e := by unfold refRunP; rw [List.foldl_append]; rfl
theorem agree_init (n : Nat) (h1 : 1 ≤ n) : Agree (initR n) ⟨List.replicate (8 * n) 0, [], []⟩ := by
  have _h := h1
  refine ⟨⟨?_, ?_⟩, rfl, by simp [initR], ?_, ?_, by simp, ?_⟩
  · intro i hi; cases hi
  · intro l hl
    show (List.replicate n 0).getD l 0 = _
    rw [List.getD, List.getElem?_replicate]
    split <;> simp [cntL, initR]
  · intro k hk
    rw [List.getD, List.getElem?_replicate]
    split <;> rfl
  · intro f hf; cases hf
  · intro t l; rfl
theorem agree_run (n : Nat) (h1 : 1 ≤ n) (h2 : n ≤ 4096) (es : List Ev) (hl : es.length ≤ 20000) (hf : ∀ e ∈ es, e.Fit) : (runP n es).Ok es.length ∧ Agree (runP n es) (refRunP n es) := by
  induction es using snoc_ind with
  | h0 => exact ⟨initR_ok n h1 h2, agree_init n h1⟩
  | h1 es e ih =>
    obtain ⟨i1, i2⟩ := ih (by simp at hl; omega) (fun e he => hf e (by simp [he]))
    have hfe := hf e (by simp)
    rw [runP_snoc, refRunP_snoc, List.length_append, List.length_singleton]
    have := agree_step i1 i2 hfe
    rw [runP_n] at this
    exact ⟨execP_ok i1 (by simp at hl; omega) hfe, this⟩
theorem refStep_fl (n : Nat) (S : RRun) (e : Ev) : (refStep n S e).fl.length ≤ S.fl.length + 1 := by
  unfold refStep
  split
  · simp
  split
  · simp
  split
  · have := List.length_filter_le (fun f : Nat × Nat × Nat => decide (f.1 ≠ e.t)) S.fl
    simp only; omega
  split
  · simp
  · simp
theorem fl_le (n : Nat) (es : List Ev) : (refRunP n es).fl.length ≤ es.length := by
  induction es using snoc_ind with
  | h0 => exact Nat.le_refl _
  | h1 es e ih =>
    rw [refRunP_snoc, List.length_append, List.length_singleton]
    have := refStep_fl n (refRunP n es) e
    omega

structure RefSt (w : World) (B : Nat) (oa : Option Addr) (oc : Nat) (fa : Option Addr) (fc : Nat) (S : RRun) : Prop where
  wd : Has w B (u64s S.words) 42
  out : StR w oa oc S.out
  fl : w.ownsRow 0 131 3 (.slice fa S.fl.length fc) S.fl.length (fCells S.fl)
  ob : ∀ k, Value.ownBlock (.slice oa S.out.length oc) = some k → B < k
  fb : ∀ k, Value.ownBlock (.slice fa S.fl.length fc) = some k → B < k
  of : ∀ k, Value.ownBlock (.slice oa S.out.length oc) = some k → ¬ Value.ownBlock (.slice fa S.fl.length fc) = some k
theorem RefSt.only {w w' : World} {B oc fc : Nat} {oa fa : Option Addr} {S : RRun} {Q : Nat → Prop} (h : RefSt w B oa oc fa fc S) (ho : Only Q w w') (hq : ∀ k, k < w.heap.size → ¬ Q k) : RefSt w' B oa oc fa fc S :=
  ⟨h.wd.only ho (hq _ h.wd.lt), ownsRow_only h.out ho (fun k hk => hq k (ownsRow_lt h.out hk)), ownsRow_only h.fl ho (fun k hk => hq k (ownsRow_lt h.fl hk)), h.ob, h.fb, h.of⟩
theorem RefSt.below {w w' : World} {B oc fc : Nat} {oa fa : Option Addr} {S : RRun} (h : RefSt w B oa oc fa fc S) (ho : Below w.heap.size w w') : RefSt w' B oa oc fa fc S :=
  h.only (Only.of_below ho) (fun k hk hq => by omega)
theorem own_slice (a : Option Addr) (n c n' c' : Nat) : Value.ownBlock (.slice a n c) = Value.ownBlock (.slice a n' c') := by cases a <;> rfl
end Go.Proofs.Ytpgjpoilcdkjgaa
