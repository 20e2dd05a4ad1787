/- A row of numbers: one number set; a suffix turned round. -/
import Derived.Test.YtdminbjenbbpaaaHeap
import Derived.Laws.IdiomCopy
import Derived.Laws.World
namespace Go.Proofs.Ytdminbjenbbpaaa
open Go.RowKit
/-- The cells of block b, from its head, hold the numbers of l, and none is frozen. -/
def RowAt (w : World) (b : Nat) (l : List Nat) : Prop :=
  ∀ j, j < l.length → w.cell? ⟨b, j, none⟩ = some (.int .i64 ((l.getD j 0 : Nat) : Int)) ∧ w.frozen? ⟨b, j, none⟩ = false
theorem RowAt.drew {w : World} {b : Nat} {l : List Nat} (h : RowAt w b l) : RowAt w.drew b l := h
theorem RowAt.drewN {w : World} {b : Nat} {l : List Nat} (h : RowAt w b l) (d : Nat) : RowAt (w.drewN d) b l := h
theorem RowAt.set {w : World} {b : Nat} {l : List Nat} (h : RowAt w b l) (k y : Nat) (hk : k < l.length) : RowAt (w.setCell ⟨b, k, none⟩ (.int .i64 (y : Int))) b (l.set k y) := by
  intro j hj
  rw [List.length_set] at hj
  refine ⟨?_, by rw [World.frozen?_setCell]; exact (h j hj).2⟩
  rw [List.getD_eq_getElem?_getD, List.getElem?_set]
  by_cases e : k = j
  · subst e
    rw [if_pos rfl, if_pos hk, World.cell?_setCell_same _ _ _ (h k hk).1]; rfl
  · rw [if_neg e, World.cell?_setCell_other _ _ _ _ (by intro hh; cases hh; exact e rfl), (h j hj).1, List.getD_eq_getElem?_getD]
theorem RowAt.rev {w : World} {b : Nat} {l : List Nat} (h : RowAt w b l) (o : Nat) (ho : o ≤ l.length) :
    RowAt (w.setCells b o ((l.drop o).reverse.map fun (n : Nat) => Value.int .i64 (n : Int))) b (l.take o ++ (l.drop o).reverse) := by
  intro j hj
  have hlen : (l.take o ++ (l.drop o).reverse).length = l.length := by
    rw [List.length_append, List.length_reverse, List.length_take, List.length_drop]; omega
  rw [hlen] at hj
  refine ⟨?_, by rw [World.frozen?_setCells]; exact (h j hj).2⟩
  have hl1 : (l.take o).length = o := by rw [List.length_take]; omega
  have hl2 : ((l.drop o).reverse.map fun (n : Nat) => Value.int .i64 (n : Int)).length = l.length - o := by rw [List.length_map, List.length_reverse, List.length_drop]
  by_cases e : j < o
  · rw [World.cell?_setCells_out b _ o w ⟨b, j, none⟩ (fun _ _ => .inl e), (h j hj).1, List.getD_eq_getElem?_getD, List.getD_eq_getElem?_getD, List.getElem?_append_left (by omega), List.getElem?_take_of_lt e]
  · obtain ⟨i, rfl⟩ : ∃ i, j = o + i := ⟨j - o, by omega⟩
    have hi : i < ((l.drop o).reverse.map fun (n : Nat) => Value.int .i64 (n : Int)).length := by omega
    rw [World.cell?_setCells_in b _ o w (fun i' hi' => by rw [(h (o + i') (by omega)).1]; rfl) i hi, List.getElem_map, List.getD_eq_getElem?_getD, List.getElem?_append_right (by omega), hl1, show o + i - o = i by omega, List.getElem?_eq_getElem (by rw [List.length_reverse, List.length_drop]; omega)]
    rfl
theorem below_sets {B b : Nat} {a : World} (hb : B ≤ b) : ∀ (vs : List Value) (o : Nat) (w : World), Below B a w → Below B a (w.setCells b o vs)
  | [], _, _, h => h
  | v :: r, o, w, h => below_sets hb r (o + 1) _ (h.setCell (p := ⟨b, o, none⟩) hb v)
theorem below_drewN {B : Nat} {a : World} : ∀ (d : Nat) (w : World), Below B a w → Below B a (w.drewN d)
  | 0, _, h => h
  | d + 1, w, h => by
    have := (below_drewN d w h).drew
    exact this
end Go.Proofs.Ytdminbjenbbpaaa
