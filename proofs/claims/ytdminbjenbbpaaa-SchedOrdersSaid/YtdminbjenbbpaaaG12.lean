/- next, whatever the sequence: true while some lie behind it, and then one fewer. -/
import Derived.Test.YtdminbjenbbpaaaG10
namespace Go.Proofs.Ytdminbjenbbpaaa
open Go.RowKit
theorem last_above (x : Nat) : ∀ t : List Nat, t.Pairwise (fun u v => v ≤ u) → (∃ z ∈ t, x < z) → ∃ a y b, t = a ++ y :: b ∧ x < y ∧ ∀ z ∈ b, z ≤ x
  | [], _, h => by obtain ⟨z, hz, _⟩ := h; exact absurd hz List.not_mem_nil
  | u :: t, hp, h => by
    rw [List.pairwise_cons] at hp
    by_cases ht : ∃ z ∈ t, x < z
    · obtain ⟨a, y, b, rfl, h1, h2⟩ := last_above x t hp.2 ht
      exact ⟨u :: a, y, b, rfl, h1, h2⟩
    · refine ⟨[], u, t, rfl, ?_, fun z hz => Nat.le_of_not_lt fun hh => ht ⟨z, hz, hh⟩⟩
      obtain ⟨z, hz, hx⟩ := h
      rcases List.mem_cons.1 hz with e | e
      · omega
      · exact absurd ⟨z, e, hx⟩ ht
theorem next_split : ∀ l : List Nat, l.Pairwise (fun u v => v ≤ u) ∨ ∃ p x a y b, l = p ++ x :: (a ++ y :: b) ∧ (a ++ y :: b).Pairwise (fun u v => v ≤ u) ∧ x < y ∧ ∀ z ∈ b, z ≤ x
  | [] => .inl List.Pairwise.nil
  | x :: t => by
    rcases next_split t with h | ⟨p, x1, a, y, b, rfl, h1, h2, h3⟩
    · by_cases ht : ∃ z ∈ t, x < z
      · obtain ⟨a, y, b, rfl, h1, h2⟩ := last_above x t h ht
        exact .inr ⟨[], x, a, y, b, rfl, h, h1, h2⟩
      · exact .inl (List.pairwise_cons.2 ⟨fun z hz => Nat.le_of_not_lt fun hh => ht ⟨z, hz, hh⟩, h⟩)
    · exact .inr ⟨x :: p, x1, a, y, b, rfl, h1, h2, h3⟩
theorem desc_get (l : List Nat) (h : l.Pairwise (fun u v => v ≤ u)) (j : Nat) (hj : j + 1 < l.length) : l.getD (j + 1) 0 ≤ l.getD j 0 := by
  rw [List.getD_eq_getElem?_getD, List.getD_eq_getElem?_getD, List.getElem?_eq_getElem hj, List.getElem?_eq_getElem (by omega)]
  exact List.pairwise_iff_getElem.1 h j (j + 1) (by omega) hj (by omega)
/-- The sequence behind one, if there is one. -/
def pivot (x : Nat) (t : List Nat) : Option (List Nat) :=
  match (t.filter (fun z => decide (x < z))).getLast? with
  | none => none
  | some y => some (y :: ((t.filter (fun z => decide (z ≤ x))).reverse ++ x :: (t.filter (fun z => decide (x < z))).dropLast.reverse))
def nextO : List Nat → Option (List Nat)
  | [] => none
  | x :: t => match nextO t with
    | some t' => some (x :: t')
    | none => pivot x t
theorem nextO_desc : ∀ l : List Nat, l.Pairwise (fun u v => v ≤ u) → nextO l = none
  | [], _ => rfl
  | x :: t, h => by
    rw [List.pairwise_cons] at h
    have hf : t.filter (fun z => decide (x < z)) = [] := List.filter_eq_nil_iff.2 (fun z hz => by have := h.1 z hz; simp; omega)
    simp only [nextO, nextO_desc t h.2, pivot, hf, List.getLast?_nil]
theorem nextO_split (x y : Nat) (a r : List Nat) (h1 : (a ++ y :: r).Pairwise (fun u v => v ≤ u)) (h2 : x < y) (h3 : ∀ z ∈ r, z ≤ x) : ∀ p : List Nat, nextO (p ++ x :: (a ++ y :: r)) = some (p ++ y :: (r.reverse ++ x :: a.reverse))
  | [] => by
    rw [List.pairwise_append] at h1
    have ha : ∀ z ∈ a, x < z := fun z hz => by have := h1.2.2 z hz y (List.mem_cons_self ..); omega
    have ea1 : a.filter (fun z => decide (x < z)) = a := List.filter_eq_self.2 (fun z hz => by simpa using ha z hz)
    have er1 : r.filter (fun z => decide (x < z)) = [] := List.filter_eq_nil_iff.2 (fun z hz => by have := h3 z hz; simp; omega)
    have ea2 : a.filter (fun z => decide (z ≤ x)) = [] := List.filter_eq_nil_iff.2 (fun z hz => by have := ha z hz; simp; omega)
    have er2 : r.filter (fun z => decide (z ≤ x)) = r := List.filter_eq_self.2 (fun z hz => by simpa using h3 z hz)
    have f1 : (a ++ y :: r).filter (fun z => decide (x < z)) = a ++ [y] := by
      rw [List.filter_append, List.filter_cons_of_pos (by simpa using h2), ea1, er1]
    have f2 : (a ++ y :: r).filter (fun z => decide (z ≤ x)) = r := by
      rw [List.filter_append, List.filter_cons_of_neg (by simp; omega), ea2, er2, List.nil_append]
    have hn : nextO (a ++ y :: r) = none := nextO_desc _ (List.pairwise_append.2 h1)
    show (match nextO (a ++ y :: r) with | some t' => some (x :: t') | none => pivot x (a ++ y :: r)) = _
    rw [hn]
    show pivot x (a ++ y :: r) = _
    unfold pivot
    rw [f1, f2]
    simp
  | u :: p => by
    show (match nextO (p ++ x :: (a ++ y :: r)) with | some t' => some (u :: t') | none => pivot u (p ++ x :: (a ++ y :: r))) = _
    rw [nextO_split x y a r h1 h2 h3 p]; rfl
/-- What next leaves. -/
def NextAny (m : Nat) (l : List Nat) (w : World) (b : Nat) : Ending → World → Prop := fun e w' =>
  (∀ n, n ≤ b → Below n w w') ∧ Only (fun k => k = b) w w' ∧
  ((e = .returned (.bool false) ∧ rem m l = 0 ∧ nextO l = none) ∨
   (e = .returned (.bool true) ∧ ∃ l' : List Nat, RowAt w' b l' ∧ l'.length = l.length ∧ (∀ z ∈ l', z < m) ∧ rem m l = rem m l' + 1 ∧ nextO l = some l'))
theorem next_any (m : Nat) (l : List Nat) (b c : Nat) (w : World) (hv : RowAt w b l) (hl : l.length ≤ 4096) (hc : l.length ≤ c) (hm : ∀ z ∈ l, z < m) :
    Calls Try.prog 46 #[.slice (some ⟨b, 0, none⟩) l.length c] w (NextAny m l w b) := by
  rcases next_split l with h | ⟨p, x, a, y, r, rfl, h1, h2, h3⟩
  · refine (next_none l b c w hv hl (desc_get l h)).mono ?_
    rintro e w' ⟨rfl, d, rfl⟩
    exact ⟨fun n _ => below_drewN d w (Below.refl n w), (Only.refl _ w).drewN d, .inl ⟨rfl, rem_desc m l h, nextO_desc l h⟩⟩
  · have hrem := next_rem m x a y r h1 h2 h3 (hm x (List.mem_append_right _ (List.mem_cons_self ..))) (fun z hz => hm z (List.mem_append_right _ (List.mem_cons_of_mem _ hz))) p
    have hlen : (p ++ x :: (a ++ y :: r)).length = p.length + 1 + a.length + 1 + r.length := by simp only [List.length_append, List.length_cons]; omega
    have gp : ∀ u (t : List Nat), (p ++ u :: t).getD p.length 0 = u := fun u t => by
      rw [List.getD_eq_getElem?_getD, List.getElem?_append_right (Nat.le_refl _), Nat.sub_self]; rfl
    have gt : ∀ j, (p ++ x :: (a ++ y :: r)).getD (p.length + 1 + j) 0 = (a ++ y :: r).getD j 0 := fun j => by
      rw [List.getD_eq_getElem?_getD, List.getElem?_append_right (by omega), show p.length + 1 + j - p.length = j + 1 by omega, List.getElem?_cons_succ, List.getD_eq_getElem?_getD]
    have ga : (a ++ y :: r).getD a.length 0 = y := by
      rw [List.getD_eq_getElem?_getD, List.getElem?_append_right (Nat.le_refl _), Nat.sub_self]; rfl
    have gr : ∀ j, (a ++ y :: r).getD (a.length + 1 + j) 0 = r.getD j 0 := fun j => by
      rw [List.getD_eq_getElem?_getD, List.getElem?_append_right (by omega), show a.length + 1 + j - a.length = j + 1 by omega, List.getElem?_cons_succ, List.getD_eq_getElem?_getD]
    have hset : ((p ++ x :: (a ++ y :: r)).set p.length y).set (p.length + 1 + a.length) x = p ++ y :: (a ++ x :: r) := by
      rw [List.set_append_right _ _ (Nat.le_refl _), Nat.sub_self, List.set_cons_zero, List.set_append_right _ _ (by omega), show p.length + 1 + a.length - p.length = a.length + 1 by omega, List.set_cons_succ, List.set_append_right _ _ (Nat.le_refl _), Nat.sub_self, List.set_cons_zero]
    refine (next_some (p ++ x :: (a ++ y :: r)) (p ++ y :: (r.reverse ++ x :: a.reverse)) b c p.length (p.length + 1 + a.length) x y w hv hl hc (by omega) (by omega) (gp _ _) (by rw [gt, ga]) h2 ?_ ?_ ?_ ?_).mono ?_
    · rw [show p.length + 1 = p.length + 1 + 0 from rfl, gt]
      cases a with
      | nil => exact h2
      | cons u a =>
        rw [List.cons_append, List.pairwise_cons] at h1
        have := h1.1 y (List.mem_append_right _ (List.mem_cons_self ..))
        show x < u
        omega
    · intro j hj hj2
      obtain ⟨i, rfl⟩ : ∃ i, j = p.length + 1 + i := ⟨j - p.length - 1, by omega⟩
      rw [gt, show p.length + 1 + i + 1 = p.length + 1 + (i + 1) by omega, gt]
      exact desc_get _ h1 i (by rw [List.length_append, List.length_cons]; omega)
    · intro j hj hj2
      obtain ⟨i, rfl⟩ : ∃ i, j = p.length + 1 + (a.length + 1 + i) := ⟨j - p.length - a.length - 2, by omega⟩
      rw [gt, gr, List.getD_eq_getElem?_getD, List.getElem?_eq_getElem (by omega)]
      exact h3 _ (List.getElem_mem (by omega))
    · rw [hset, show p ++ y :: (a ++ x :: r) = (p ++ [y]) ++ (a ++ x :: r) by simp, List.take_left' (by simp), List.drop_left' (by simp)]
      simp
    · rintro e w' ⟨rfl, hrow, hb, ho⟩
      refine ⟨hb, ho, .inr ⟨rfl, _, hrow, ?_, ?_, hrem, nextO_split x y a r h1 h2 h3 p⟩⟩
      · simp only [List.length_append, List.length_cons, List.length_reverse]; omega
      · intro z hz
        apply hm
        simp only [List.mem_append, List.mem_cons, List.mem_reverse] at hz ⊢
        rcases hz with h | h | h | h | h <;> simp [h]
end Go.Proofs.Ytdminbjenbbpaaa
