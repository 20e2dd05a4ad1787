/- told, events. -/
import Derived.Test.YtjmdibgncaljaaaO21

namespace Go.Proofs.Ytjmdibgncaljaaa
open Go.RowKit

theorem info65 : (Try.prog.info? 30).map (fun i => (i.zero, i.size, i.bytes)) = some (some (.agg #[.int .u8 0, .int .i64 0, .int .u64 0, .int .u64 0, .int .u64 0, .int .i64 0, .int .i64 0, .slice none 0 0]), 8, 80) := by kernel_rfl
def acCells (l : List Ac) : List Value := l.flatMap Ac.cells
theorem acCells_get : ∀ (es : List Ac) (i : Nat) (e : Ac), es[i]? = some e → ∀ j v, e.cells[j]? = some v → (acCells es)[i * 6 + j]? = some v
  | q :: es, 0, e, h, j, v, hj => by
    simp at h
    subst h
    have hl : j < q.cells.length := by
      rcases Nat.lt_or_ge j q.cells.length with h1 | h1
      · exact h1
      · rw [List.getElem?_eq_none h1] at hj; cases hj
    simp only [acCells, List.flatMap_cons, Nat.zero_mul, Nat.zero_add]
    rw [List.getElem?_append_left hl]; exact hj
  | q :: es, i + 1, e, h, j, v, hj => by
    have := acCells_get es i e (by simpa using h) j v hj
    have e1 : (i + 1) * 6 + j = q.cells.length + (i * 6 + j) := by show _ = 6 + _; omega
    simp only [acCells, List.flatMap_cons]
    rw [e1, List.getElem?_append_right (by omega), Nat.add_sub_cancel_left]
    exact this
  | [], _, _, h, _, _, _ => by simp at h
theorem evCells_snoc (l : List Ev) (e : Ev) : evCells (l ++ [e]) = evCells l ++ e.cells := by simp [evCells]
theorem evCells_length (l : List Ev) : (evCells l).length = l.length * 8 := by
  induction l with
  | nil => rfl
  | cons s l ih => simp only [evCells, List.flatMap_cons, List.length_append, List.length_cons] at *; rw [ih]; show 8 + _ = _; omega
theorem Ac.ev_good (a : Ac) (h : a.Fit) : a.ev.Good := by
  have h1 := h.k
  have h2 := h.t
  have h3 := offP_lt a.w h.w
  have h4 := h.v
  unfold Ac.ev
  split
  · exact ⟨⟨by simp, by simp; omega, by simp; omega, by simp; omega, by simp, by simp, by simp, by simp⟩, by simp, none, 0, 0, rfl, by simp [validP, kindB, plB]; omega⟩
  split
  · exact ⟨⟨by simp, by simp; omega, by simp; omega, by simp; omega, by simp; omega, by simp, by simp, by simp⟩, by simp, none, 0, 0, rfl, by simp [validP, kindB, plB]; omega⟩
  split
  · exact ⟨⟨by simp, by simp; omega, by simp; omega, by simp, by simp, by simp, by simp, by simp⟩, by simp, none, 0, 0, rfl, by simp [validP, kindB, plB]; omega⟩
  split
  · exact ⟨⟨by simp, by simp; omega, by simp, by simp, by simp, by simp, by simp, by simp⟩, by simp, none, 0, 0, rfl, by simp [validP, kindB, plB]; omega⟩
  · exact ⟨⟨by simp, by simp, by simp, by simp, by simp, by simp; omega, by simp; omega, by simp; omega⟩, by simp, none, 0, 0, rfl, by simp [validP, kindB, wdB]; omega⟩
theorem Ac.ev_ch (a : Ac) : a.ev.ch = .slice none 0 0 := by
  unfold Ac.ev
  (repeat' split) <;> rfl

/-- The events of acts. -/
def evs (l : List Ac) : List Ev := l.map Ac.ev
end Go.Proofs.Ytjmdibgncaljaaa
