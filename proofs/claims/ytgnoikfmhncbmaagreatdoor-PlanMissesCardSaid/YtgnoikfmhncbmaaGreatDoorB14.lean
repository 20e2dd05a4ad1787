/- The parts of a condition as the laws draw them; the name of a column; an integer as a value. -/
import Derived.Test.YtgnoikfmhncbmaaGreatDoorB11
set_option linter.unusedVariables false
set_option linter.unusedSimpArgs false
namespace Go.Proofs.YtgnoikfmhncbmaaGreatDoor
open Go.RowKit
/-- A part of a condition. -/
structure Nd where
  op : Nat
  col : Nat
  v : RV
  lf : Nat
  rt : Nat
def Nd.cells (x : Nd) : List Value := [.int .u8 (x.op : Int), .int .u8 (x.col : Int), .int .u8 (x.v.ty : Int), .bool x.v.nl, .int .i64 x.v.n, .string x.v.tx, .bool x.v.b, .int .u8 (x.lf : Int), .int .u8 (x.rt : Int)]
def ndCells (l : List Nd) : List Value := l.flatMap Nd.cells
structure Nd.Fit (x : Nd) : Prop where
  op : x.op < 256
  col : x.col < 256
  ty : x.v.ty < 256
  tx : x.v.tx.size ≤ 140737488351232
  lf : x.lf < 256
  rt : x.rt < 256
theorem ndCells_get : ∀ (es : List Nd) (i : Nat) (e : Nd), es[i]? = some e → ∀ j v, e.cells[j]? = some v → (ndCells es)[i * 9 + j]? = some v
  | q :: es, 0, e, h, j, v, hj => by
    simp at h
    subst h
    have hl : j < q.cells.length := by
      rcases Nat.lt_or_ge j q.cells.length with h1 | h1
      · exact h1
      · rw [List.getElem?_eq_none h1] at hj; cases hj
    simp only [ndCells, List.flatMap_cons, Nat.zero_mul, Nat.zero_add]
    rw [List.getElem?_append_left hl]; exact hj
  | q :: es, i + 1, e, h, j, v, hj => by
    have := ndCells_get es i e (by simpa using h) j v hj
    have e1 : (i + 1) * 9 + j = q.cells.length + (i * 9 + j) := by show _ = 9 + _; omega
    simp only [ndCells, List.flatMap_cons]
    rw [e1, List.getElem?_append_right (by omega), Nat.add_sub_cancel_left]
    exact this
  | [], _, _, h, _, _, _ => by simp at h
theorem ndCells_len (l : List Nd) : (ndCells l).length = l.length * 9 := by
  induction l with
  | nil => rfl
  | cons s l ih => simp only [ndCells, List.flatMap_cons, List.length_append, List.length_cons] at *; rw [ih]; show 9 + _ = _; omega
def colL : List ByteArray := [⟨#[97]⟩, ⟨#[98]⟩, ⟨#[99]⟩, ⟨#[100]⟩, ⟨#[105, 100]⟩, ⟨#[122]⟩]
def colN (n : Nat) : ByteArray := colL.getD (n % 6) ⟨#[]⟩
theorem colN_size (n : Nat) : (colN n).size ≤ 140737488351232 := by
  have h : n % 6 < 6 := Nat.mod_lt _ (by decide)
  unfold colN
  generalize n % 6 = m at *
  match m with
  | 0 | 1 | 2 | 3 | 4 | 5 => decide
  | m + 6 => omega
set_option maxHeartbeats 4000000 in
set_option maxRecDepth 100000 in
theorem column_any (n : Nat) (h : n < 256) (w : World) : Calls Tryz.prog 11 #[.int .u8 (n : Int)] w (RPost w (.string (colN n))) := by
  have hm : n % 6 < 6 := Nat.mod_lt _ (by decide)
  have ht : (n : Int).tmod 6 = ((n % 6 : Nat) : Int) := rfl
  unfold colN
  generalize n % 6 = m at *
  obtain ⟨s, hs⟩ : ∃ s, colL.getD m ⟨#[]⟩ = s := ⟨_, rfl⟩
  have hb : ∀ b : Obj, Below w.heap.size w (w.alloc b) := fun b => (Below.refl w.heap.size w).alloc (Nat.le_refl _) b
  have hN := Has.new w (colL.map Value.string) 9
  have hg : (colL.map Value.string)[m]? = some (.string s) := by
    rw [← hs]
    match m, hm with
    | 0, _ | 1, _ | 2, _ | 3, _ | 4, _ | 5, _ => rfl
  have hc := hN.cell hg
  rw [hs]
  replace hs := Lib.hid hs
  replace hg := Lib.hid hg
  generalize hpost : RPost w _ = post
  replace hpost := Lib.hid hpost
  dsimp only [colL, List.map] at hc hN
  replace hN := Lib.hid hN
  go_enter Tryz.func11, Tryz.ntmps11
  go_wp2_with fail
  rw [← hpost.out]
  exact ⟨rfl, hb _⟩
set_option maxHeartbeats 4000000 in
set_option maxRecDepth 100000 in
theorem integer_any (n : Int) (w : World) : Calls Tryz.prog 23 #[.int .i64 n] w (RPost w (.agg #[.int .u8 1, .bool false, .int .i64 n, .string ⟨#[]⟩, .bool false])) := by
  go_enter Tryz.func23, Tryz.ntmps23
  go_wp2_with fail
  refine bodyPost_ret (v := .agg #[.int .u8 1, .bool false, .int .i64 n, .string ⟨#[]⟩, .bool false]) (by simp [results, Tryz.results23, go_sem]) rfl ?_
  exact ⟨rfl, by first | exact ((Below.refl _ _).alloc (Nat.le_refl _) _) | exact ((Below.refl _ _).alloc (Nat.le_refl _) _).alloc (by simp) _ | (simp; done)⟩
/-- The condition that the parts describe, from the i-th on; k: how many more parts may follow. -/
def treeO (l : List Nd) : Nat → Nat → AT
  | 0, _ => .nil
  | k + 1, i => match l[i]? with
    | none => .nil
    | some x => if 24 ≤ i then .nil else
      .node 0 (x.op % 12) (colN x.col) x.v (if x.op % 12 = 1 ∨ x.op % 12 = 2 ∨ x.op % 12 = 3 then treeO l k (i + 1 + x.lf % 3) else .nil) (if x.op % 12 = 1 ∨ x.op % 12 = 2 then treeO l k (i + 2 + x.rt % 4) else .nil)
theorem treeO_size (l : List Nd) : ∀ k i, (treeO l k i).size < 2 ^ k
  | 0, i => (by show 0 < 1; decide)
  | k + 1, i => by
    have h2 : 0 < 2 ^ k := Nat.two_pow_pos k
    have hn : (AT.nil).size < 2 ^ k := h2
    unfold treeO
    split
    · show 0 < 2 ^ (k + 1); exact Nat.two_pow_pos _
    rename_i x hx
    split
    · show 0 < 2 ^ (k + 1); exact Nat.two_pow_pos _
    have h1 : ∀ (c : Prop) [Decidable c] (t : AT), t.size < 2 ^ k → (if c then t else AT.nil).size < 2 ^ k := fun c _ t h => by split; exact h; exact hn
    have a := h1 (x.op % 12 = 1 ∨ x.op % 12 = 2 ∨ x.op % 12 = 3) _ (treeO_size l k (i + 1 + x.lf % 3))
    have b := h1 (x.op % 12 = 1 ∨ x.op % 12 = 2) _ (treeO_size l k (i + 2 + x.rt % 4))
    simp only [AT.size, Nat.pow_succ]
    omega
theorem treeO_fit (l : List Nd) (hl : ∀ x ∈ l, x.Fit) : ∀ k i, (treeO l k i).Fit
  | 0, i => trivial
  | k + 1, i => by
    unfold treeO
    split
    · trivial
    rename_i x hx
    split
    · trivial
    have hf := hl x (List.mem_of_getElem? hx)
    have h1 : ∀ (c : Prop) [Decidable c] (t : AT), t.Fit → (if c then t else AT.nil).Fit := fun c _ t h => by split; exact h; exact trivial
    exact ⟨by omega, colN_size _, hf.ty, hf.tx, h1 _ _ (treeO_fit l hl k _), h1 _ _ (treeO_fit l hl k _)⟩
/-- A tree of the program's like s, in blocks of its own at B or behind. -/
structure Tr (B : Nat) (s t : AT) (w : World) : Prop where
  at' : t.At w
  sm : s.same t
  nd : t.addrs.Nodup
  ge : ∀ a ∈ t.addrs, B ≤ a
theorem Tr.only {S : Nat → Prop} {B : Nat} {s t : AT} {w w' : World} (h : Tr B s t w) (ho : Only S w w') (hs : ∀ a ∈ t.addrs, ¬ S a) : Tr B s t w' := ⟨h.at'.only ho hs, h.sm, h.nd, h.ge⟩
theorem Tr.below {B : Nat} {s t : AT} {w w' : World} (h : Tr B s t w) (hb : Below w.heap.size w w') : Tr B s t w' := ⟨h.at'.below hb, h.sm, h.nd, h.ge⟩
theorem Tr.mono {B B' : Nat} {s t : AT} {w : World} (h : Tr B s t w) (hb : B' ≤ B) : Tr B' s t w := ⟨h.at', h.sm, h.nd, fun a ha => Nat.le_trans hb (h.ge a ha)⟩
theorem Tr.nil (B : Nat) (w : World) : Tr B .nil .nil w := ⟨trivial, trivial, List.nodup_nil, fun a ha => by cases ha⟩
def TreP (s : AT) (w : World) (e : Ending) (w' : World) : Prop := ∃ t, e = .returned t.ptr ∧ Tr w.heap.size s t w' ∧ Below w.heap.size w w'
end Go.Proofs.YtgnoikfmhncbmaaGreatDoor
