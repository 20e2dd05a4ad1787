/- Words for the walks over rows: values as cells, rows that a call builds. -/
import Derived.Test.YtgnoikfmhncbmaaGreatDoorRows
import Derived.Test.YtgnoikfmhncbmaaGreatDoorVal
import Derived.BigRegion
import Derived.BigQuiet
import Derived.Deep.QuietTactic
import Derived.Deep.DeepCutAuto
import Derived.Deep.CutBlock
import Derived.StillTailTactics
set_option linter.unusedVariables false
set_option linter.unusedSimpArgs false
namespace Go.Proofs.YtgnoikfmhncbmaaGreatDoor
open Go.RowKit Go.Lib

def RV.val (v : RV) : Value := .agg #[.int .u8 (v.ty : Int), .bool v.nl, .int .i64 v.n, .string v.tx, .bool v.b]
def RV.rval (v : RV) : Value := .agg #[.int .i64 (v.ty : Int), .bool v.nl, .int .i64 v.n, .string v.tx, .bool v.b]
def RV.cells (v : RV) : List Value := [.int .u8 (v.ty : Int), .bool v.nl, .int .i64 v.n, .string v.tx, .bool v.b]
def RV.rcells (v : RV) : List Value := [.int .i64 (v.ty : Int), .bool v.nl, .int .i64 v.n, .string v.tx, .bool v.b]
/-- The call gives this value, and nothing that there was has changed. -/
def RPost (w : World) (v : Value) (e : Ending) (w' : World) : Prop := e = .returned v ∧ Below w.heap.size w w'

theorem flat_len {α : Type} {f : α → List Value} {n : Nat} (hf : ∀ e, (f e).length = n) : ∀ l : List α, (l.flatMap f).length = l.length * n
  | [] => by simp
  | e :: l => by rw [List.flatMap_cons, List.length_append, hf, flat_len hf l, List.length_cons, Nat.add_mul]; omega
theorem flat_get {α : Type} {f : α → List Value} {n : Nat} (hf : ∀ e, (f e).length = n) : ∀ (l : List α) (i : Nat) (e : α), l[i]? = some e → ∀ j v, (f e)[j]? = some v → (l.flatMap f)[i * n + j]? = some v
  | [], _, _, h, _, _, _ => by simp at h
  | q :: l, 0, e, h, j, v, hj => by
    simp at h
    subst h
    have hl : j < (f q).length := by
      rcases Nat.lt_or_ge j (f q).length with h1 | h1
      · exact h1
      · rw [List.getElem?_eq_none h1] at hj; cases hj
    rw [List.flatMap_cons, Nat.zero_mul, Nat.zero_add, List.getElem?_append_left hl]; exact hj
  | q :: l, i + 1, e, h, j, v, hj => by
    have := flat_get hf l i e (by simpa using h) j v hj
    have e1 : (i + 1) * n + j = (f q).length + (i * n + j) := by rw [hf, Nat.add_mul]; omega
    rw [List.flatMap_cons, e1, List.getElem?_append_right (by omega), Nat.add_sub_cancel_left]
    exact this
theorem get_lt {α : Type} (d : α) {l : List α} {k : Nat} (h : k < l.length) : l[k]? = some (l.getD k d) := by
  rw [List.getD, List.getElem?_eq_getElem h]; rfl
def RV0 : RV := ⟨0, false, 0, ByteArray.empty, false⟩
def vCells (l : List RV) : List Value := l.flatMap RV.cells
def rvCells (l : List RV) : List Value := l.flatMap RV.rcells
theorem vc_get {l : List RV} {k : Nat} (h : k < l.length) (j : Nat) (v : Value) (hj : (l.getD k RV0).cells[j]? = some v) : (vCells l)[k * 5 + j]? = some v := flat_get (f := RV.cells) (n := 5) (fun _ => rfl) l k _ (get_lt RV0 h) j v hj
theorem rvc_get {l : List RV} {k : Nat} (h : k < l.length) (j : Nat) (v : Value) (hj : (l.getD k RV0).rcells[j]? = some v) : (rvCells l)[k * 5 + j]? = some v := flat_get (f := RV.rcells) (n := 5) (fun _ => rfl) l k _ (get_lt RV0 h) j v hj
theorem vc_len (l : List RV) : (vCells l).length = l.length * 5 := flat_len (f := RV.cells) (fun _ => rfl) l
theorem rvc_len (l : List RV) : (rvCells l).length = l.length * 5 := flat_len (f := RV.rcells) (fun _ => rfl) l
theorem rvc_snoc (l : List RV) (v : RV) : rvCells (l ++ [v]) = rvCells l ++ v.rcells := by simp [rvCells]
theorem vc_snoc (l : List RV) (v : RV) : vCells (l ++ [v]) = vCells l ++ v.cells := by simp [vCells]

theorem news_at {w : World} {b : Nat} {cs : List Value} {T : TypeId} (h : Has w b cs T) (j : Nat) (u : Value) (hj : cs[j]? = some u) : w.cell? (Addr.add ⟨b, 0, none⟩ j) = some u := by
  have := h.cell hj
  unfold Addr.add
  split
  · simp_all
  · simpa using this
/-- A row that the call builds: what it holds; its block is new; nothing that there was has changed. -/
structure RowB (w : World) (T : TypeId) (size n : Nat) (xs : List Value) (sa : Option Addr) (sc : Nat) (wr : World) : Prop where
  o : wr.ownsRow 0 T size (.slice sa n sc) n xs
  ob : ∀ k, Value.ownBlock (.slice sa n sc) = some k → w.heap.size ≤ k
  b : Below w.heap.size w wr
theorem RowB.nil (w : World) (T : TypeId) (size : Nat) : RowB w T size 0 [] none 0 w := ⟨World.ownsRow_nil _ _ _ _, (fun k hk => by cases hk), Below.refl _ _⟩
theorem RowB.nil' {w wr : World} (hb : Below w.heap.size w wr) (T : TypeId) (size : Nat) : RowB w T size 0 [] none 0 wr := ⟨World.ownsRow_nil _ _ _ _, (fun k hk => by cases hk), hb⟩
theorem RowB.below {w wr wr2 : World} {T : TypeId} {size n : Nat} {xs : List Value} {sa : Option Addr} {sc : Nat} (h : RowB w T size n xs sa sc wr) (hb : Below wr.heap.size wr wr2) : RowB w T size n xs sa sc wr2 :=
  ⟨ownsRow_only h.o (Only.of_below hb) (fun k hk e => by have := ownsRow_lt h.o hk; omega), h.ob, h.b.trans (hb.mono h.b.size)⟩
theorem RowB.alloc {w wr : World} {T : TypeId} {size n : Nat} {xs : List Value} {sa : Option Addr} {sc : Nat} (h : RowB w T size n xs sa sc wr) (o : Obj) : RowB w T size n xs sa sc (wr.alloc o) :=
  h.below ((Below.refl _ _).alloc (Nat.le_refl _) _)
theorem RowB.app {w w1 w2 : World} {T : TypeId} {size n m : Nat} {xs ys : List Value} {sa sa' : Option Addr} {sc sc' : Nat} (h : RowB w T size n xs sa sc w1)
    (own : w2.ownsRow 0 T size (.slice sa' m sc') m (xs ++ ys)) (only : Only (fun k => Value.ownBlock (.slice sa n sc) = some k) w1 w2)
    (fresh : ∀ k, Value.ownBlock (.slice sa' m sc') = some k → Value.ownBlock (.slice sa n sc) = some k ∨ w1.heap.size ≤ k) : RowB w T size m (xs ++ ys) sa' sc' w2 := by
  have hs := h.b.size
  refine ⟨own, fun k hk => ?_, h.b.trans (only.below (B := w.heap.size) hs (fun k _ e => h.ob k e))⟩
  rcases fresh k hk with h1 | h1
  · exact h.ob k h1
  · omega
theorem RowB.rd {w wr : World} {T : TypeId} {size n : Nat} {xs : List Value} {sa : Option Addr} {sc : Nat} (h : RowB w T size n xs sa sc wr) : Rd wr (.slice sa n sc) n xs := Rd.of_own h.o
/-- The call gives a new row with these cells. -/
def RowPost (w : World) (T : TypeId) (size n : Nat) (xs : List Value) (e : Ending) (w' : World) : Prop := ∃ sa sc, e = .returned (.slice sa n sc) ∧ RowB w T size n xs sa sc w'

theorem cellk {w w' : World} (hb : Below w.heap.size w w') {a : Addr} {v : Value} (h : w.cell? a = some v) : w'.cell? a = some v := (hb.cell (World.block_lt_of_cell? _ _ h)).trans h
/-- A region that draws its order, whose operations only read but for the last few, which have one order. -/
theorem region_tail {P : Program} {id : Nat} {Q : Exit → Act → World → Prop} {a : Act} {w : World} {l : List Oper} (n : Nat) (hm : P.follows .mixedOrders = true) (hB : Region.lexTailB .any l.toArray n = true)
    (h : wpStill P l.toArray w.drew (fun a' => wpList P l.toArray Q (l.drop n) a' w.drew) (l.take n) a) : (Code.region id l.toArray true).wp P Q a w :=
  wp_region_still_tail n hm hB h
/-- A drawn region whose operations have one value each in every world of a class. -/
theorem wp_region_quietC {P : Program} {C : World → Prop} {id : Nat} {Q : Exit → Act → World → Prop} {a : Act} {w : World} {l : List Oper} (hm : P.follows .mixedOrders = true) (hB : Region.lexB .any l.toArray = true) (hC : C w.drew)
    (h : wpQuiet P l.toArray C (fun a' => ∀ w', C w' → Q .normal a' w') l a) : (Code.region id l.toArray true).wp P Q a w :=
  wp_region_quiet (C := C) hm hB hC (by simpa using h)
theorem below_drew {B : Nat} {w w' : World} (h : Below B w w') : Below B w w'.drew := h.trans ((Below.refl B w').drew)
end Go.Proofs.YtgnoikfmhncbmaaGreatDoor
