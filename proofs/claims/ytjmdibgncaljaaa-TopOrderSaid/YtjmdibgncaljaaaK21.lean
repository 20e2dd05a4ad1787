/- crashset: a set whose blocks are kept, whatever else changes; the iterator's state between two rounds. -/
import Derived.Test.YtjmdibgncaljaaaK20
import Derived.Test.YtjmdibgncaljaaaItB
namespace Go.Proofs.Ytjmdibgncaljaaa.Dev
open Go.RowKit Go.Maps
variable {w C : World} {R : Dv} {B N : Nat} {pv lv hv : Value}
theorem SetNew.keep (h : SetNew w R B pv lv hv) (hs : w.heap.size ≤ C.heap.size) (hc : ∀ k, B ≤ k → k < w.heap.size → C.heap[k]? = w.heap[k]?) : SetSt C R pv lv hv := by
  have ho : Only (fun k => k < B) w { w with heap := C.heap } := ⟨rfl, rfl, rfl, hs, fun k hk hn => hc k (by omega) hk⟩
  obtain ⟨⟨b, h1, h2, f1⟩, ⟨a, c, h3, h4, f2⟩, ⟨a', c', vs, h5, h6, h7, f3, f4⟩⟩ := h
  have p1 := h2.only ho (by omega)
  have p2 := h4.only ho (fun k hk => by have := f2 k hk; omega)
  have p3 := h6.only ho (fun v hv k hk => by have := f4 v hv k hk; omega)
  have p4 := h7.only ho (fun k hk => by have := f3 k hk; omega)
  refine ⟨⟨b, h1, p1⟩, ⟨a, c, h3, p2⟩, ⟨a', c', vs, h5, ⟨p3.1, fun i l hl => ?_⟩, p4⟩⟩
  obtain ⟨x, y, g1, g2⟩ := p3.2 i l hl
  exact ⟨x, y, g1, g2⟩
theorem digR_zero (R : Dv) (ds : List Nat) : digR R ds 0 = List.replicate ds.length 0 := by
  have h0 : ∀ ds : List Nat, restR R ds 0 = 0 := fun ds => Nat.le_zero.1 (rest_le R ds 0)
  induction ds with
  | nil => rfl
  | cons l r ih => rw [digR, ih, h0, Nat.zero_mod, List.length_cons, List.replicate_succ]
theorem rest_zero0 (R : Dv) (ds : List Nat) : restR R ds 0 = 0 := Nat.le_zero.1 (rest_le R ds 0)
/-- The blocks of the iterator: from D on, up to behind its row. -/
def allC (D kb : Nat) (k : Nat) : Prop := D ≤ k ∧ k ≤ kb
/-- What the iterator holds between two rounds: the set as examine gave it in w1, its box, and the row of n's digits. -/
structure AllAt (w1 : World) (D : Nat) (R : Dv) (pv lv hv : Value) (n : Nat) (wr : World) : Prop where
  hs : w1.heap.size + 1 < wr.heap.size
  same : ∀ k, D ≤ k → k < w1.heap.size → wr.heap[k]? = w1.heap[k]?
  box : Has wr w1.heap.size [pv, lv, hv] 127
  row : Has wr (w1.heap.size + 1) (nats (digR R (dirtyL R) n)) 3
theorem AllAt.st {w1 wr : World} {D n : Nat} (h : AllAt w1 D R pv lv hv n wr) (hn : SetNew w1 R D pv lv hv) : SetSt wr R pv lv hv := hn.keep (by have := h.hs; omega) h.same
theorem AllAt.keep {w1 wr : World} {D n : Nat} (h : AllAt w1 D R pv lv hv n wr) (hD : D ≤ w1.heap.size) (hs : wr.heap.size ≤ C.heap.size) (hc : ∀ k, allC D (w1.heap.size + 1) k → C.heap[k]? = wr.heap[k]?) : AllAt w1 D R pv lv hv n C := by
  have h1 := h.hs
  refine ⟨by omega, fun k h2 h3 => (hc k ⟨h2, by omega⟩).trans (h.same k h2 h3), ?_, ?_⟩
  · have := h.box; unfold Has at *; rw [hc _ ⟨hD, by omega⟩]; exact this
  · have := h.row; unfold Has at *; rw [hc _ ⟨by omega, by omega⟩]; exact this
theorem AllAt.next {w1 wr : World} {D n : Nat} (h : AllAt w1 D R pv lv hv n wr) (ho : Only (fun q => q = w1.heap.size + 1) wr C) (hr : Has C (w1.heap.size + 1) (nats (digR R (dirtyL R) (n + 1))) 3) : AllAt w1 D R pv lv hv (n + 1) C := by
  have h1 := h.hs
  refine ⟨by have := ho.size; omega, fun k h2 h3 => (ho.block k (by omega) (by omega)).trans (h.same k h2 h3), h.box.only ho (by omega), hr⟩
end Go.Proofs.Ytjmdibgncaljaaa.Dev
