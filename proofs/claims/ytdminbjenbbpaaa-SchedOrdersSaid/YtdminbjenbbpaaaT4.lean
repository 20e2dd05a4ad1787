/- The reference's Next, whatever the sequence. -/
import Derived.Test.YtdminbjenbbpaaaT3
namespace Go.Proofs.Ytdminbjenbbpaaa
open Go.RowKit
theorem exT_eq (x y : Nat) (p a r : List Nat) :
    exT (p ++ x :: (a ++ y :: r)) p.length (p.length + 1 + a.length) x y ((p ++ x :: (a ++ y :: r)).length - 1 - p.length) = p ++ y :: (r.reverse ++ x :: a.reverse) := by
  have hlen : (p ++ x :: (a ++ y :: r)).length = p.length + 1 + a.length + 1 + r.length := by simp only [List.length_append, List.length_cons]; omega
  have gt : ∀ j, (p ++ x :: (a ++ y :: r)).getD (p.length + 1 + j) 0 = (a ++ y :: r).getD j 0 := fun j => by
    rw [List.getD_eq_getElem?_getD, List.getElem?_append_right (by omega), show p.length + 1 + j - p.length = j + 1 by omega, List.getElem?_cons_succ, List.getD_eq_getElem?_getD]
  unfold exT
  rw [List.take_left' rfl]
  congr 2
  have e : r.reverse ++ x :: a.reverse = (a ++ x :: r).reverse := by simp
  rw [e]
  apply List.ext_getElem?
  intro u
  by_cases hu : u < a.length + 1 + r.length
  · rw [List.getElem?_map, List.getElem?_range (by omega), List.getElem?_reverse (by simp only [List.length_append, List.length_cons]; omega)]
    have e2 : (a ++ x :: r).length - 1 - u = a.length + r.length - u := by simp only [List.length_append, List.length_cons]; omega
    have e3 : (p ++ x :: (a ++ y :: r)).length - 1 - u = p.length + 1 + (a.length + r.length - u) := by omega
    rw [e2]
    show some (exE _ _ x ((p ++ x :: (a ++ y :: r)).length - 1 - u)) = _
    rw [e3]
    unfold exE
    rw [gt]
    obtain ⟨v, hv⟩ : ∃ v, v = a.length + r.length - u := ⟨_, rfl⟩
    rw [← hv]
    by_cases h1 : v < a.length
    · rw [if_neg (by omega), List.getElem?_append_left h1, List.getD_eq_getElem?_getD, List.getElem?_append_left h1, List.getElem?_eq_getElem h1]; rfl
    · rw [List.getElem?_append_right (by omega), List.getD_eq_getElem?_getD, List.getElem?_append_right (by omega)]
      by_cases h2 : v = a.length
      · rw [if_pos (by omega), h2, Nat.sub_self]; rfl
      · obtain ⟨t, ht⟩ : ∃ t, v - a.length = t + 1 := ⟨v - a.length - 1, by omega⟩
        have htr : t < r.length := by omega
        rw [if_neg (by omega), ht, List.getElem?_cons_succ, List.getElem?_cons_succ, List.getElem?_eq_getElem htr]; rfl
  · rw [List.getElem?_eq_none (by rw [List.length_map, List.length_range]; omega), List.getElem?_eq_none (by rw [List.length_reverse, List.length_append, List.length_cons]; omega)]
/-- A sequence in memory as the law holds it: nil if it is empty or there is none. -/
def WantAt (w : World) (L : List Nat) (v : Value) : Prop :=
  (L = [] ∧ ∃ a cp, v = .slice a 0 cp) ∨ (L ≠ [] ∧ ∃ g cp, v = .slice (some ⟨g, 0, none⟩) L.length cp ∧ L.length ≤ cp ∧ RowAt w g L)
theorem refnext_any (L : List Nat) (v : Value) (w : World) (h : WantAt w L v) (hl : L.length ≤ 4096) :
    Calls Try.prog 31 #[v] w fun e w' => (nextO L = none ∧ e = .returned (.slice none 0 0) ∧ ∃ d, w' = w.drewN d) ∨ ∃ T, nextO L = some T ∧ T ≠ [] ∧ RNext w T e w' := by
  rcases h with ⟨rfl, a, cp, rfl⟩ | ⟨hne, g, cp, rfl, hlc, hr⟩
  · refine (refnext_empty a cp w).mono ?_
    rintro e w' ⟨rfl, rfl⟩
    exact .inl ⟨rfl, rfl, 0, rfl⟩
  · have hv : ∀ j, j < L.length → w.cell? ⟨g, 0 + j, none⟩ = some (.int .i64 ((L.getD j 0 : Nat) : Int)) := fun j hj => by rw [Nat.zero_add]; exact (hr j hj).1
    rcases next_split L with h | ⟨p, x, a, y, r, rfl, h1, h2, h3⟩
    · refine (refnext_none L g 0 cp w hv hl (desc_get L h)).mono ?_
      rintro e w' ⟨rfl, d, rfl⟩
      exact .inl ⟨nextO_desc L h, rfl, d, rfl⟩
    · have hlen : (p ++ x :: (a ++ y :: r)).length = p.length + 1 + a.length + 1 + r.length := by simp only [List.length_append, List.length_cons]; omega
      have gp : ∀ u (t : List Nat), (p ++ u :: t).getD p.length 0 = u := fun u t => by
        rw [List.getD_eq_getElem?_getD, List.getElem?_append_right (Nat.le_refl _), Nat.sub_self]; rfl
      have gt : ∀ j, (p ++ x :: (a ++ y :: r)).getD (p.length + 1 + j) 0 = (a ++ y :: r).getD j 0 := fun j => by
        rw [List.getD_eq_getElem?_getD, List.getElem?_append_right (by omega), show p.length + 1 + j - p.length = j + 1 by omega, List.getElem?_cons_succ, List.getD_eq_getElem?_getD]
      have ga : (a ++ y :: r).getD a.length 0 = y := by
        rw [List.getD_eq_getElem?_getD, List.getElem?_append_right (Nat.le_refl _), Nat.sub_self]; rfl
      have gr : ∀ j, (a ++ y :: r).getD (a.length + 1 + j) 0 = r.getD j 0 := fun j => by
        rw [List.getD_eq_getElem?_getD, List.getElem?_append_right (by omega), show a.length + 1 + j - a.length = j + 1 by omega, List.getElem?_cons_succ, List.getD_eq_getElem?_getD]
      refine (refnext_some _ g 0 cp p.length (p.length + 1 + a.length) x y w hv hl hlc (by omega) (by omega) (gp _ _) (by rw [gt, ga]) h2 ?_ ?_ ?_).mono ?_
      · rw [show p.length + 1 = p.length + 1 + 0 from rfl, gt]
        cases a with
        | nil => exact h2
        | cons u a =>
          rw [List.cons_append, List.pairwise_cons] at h1
          have := h1.1 y (List.mem_append_right _ (List.mem_cons_self ..))
          show x < u
          omega
      · intro j hj hj2
        obtain ⟨i, rfl⟩ : ∃ i, j = p.length + 1 + i := ⟨j - p.length - 1, by omega⟩
        rw [gt, show p.length + 1 + i + 1 = p.length + 1 + (i + 1) by omega, gt]
        exact desc_get _ h1 i (by rw [List.length_append, List.length_cons]; omega)
      · intro j hj hj2
        obtain ⟨i, rfl⟩ : ∃ i, j = p.length + 1 + (a.length + 1 + i) := ⟨j - p.length - a.length - 2, by omega⟩
        rw [gt, gr, List.getD_eq_getElem?_getD, List.getElem?_eq_getElem (by omega)]
        exact h3 _ (List.getElem_mem (by omega))
      · intro e w' h
        rw [exT_eq] at h
        exact .inr ⟨_, nextO_split x y a r h1 h2 h3 p, by simp, h⟩
end Go.Proofs.Ytdminbjenbbpaaa
