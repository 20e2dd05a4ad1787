/- Quoted texts and numbers as literals, plain. No program in sight. -/
import Derived.Test.YtpjbcadelmjmfaaGreatDoorVal
import Derived.Lib.Replace
import Derived.Lib.IndexLaws
import Derived.Lib.CountLaws
namespace Go.Proofs.YtpjbcadelmjmfaaGreatDoor
open Go.Lib

def dbl : List UInt8 → List UInt8
  | [] => []
  | c :: r => if c = 39 then 39 :: 39 :: dbl r else c :: dbl r
def rep2 : List UInt8 → List UInt8
  | [] => []
  | [c] => [c]
  | c :: d :: r => if c = 39 ∧ d = 39 then 39 :: rep2 r else c :: rep2 (d :: r)
def unq : List UInt8 → Option (List UInt8)
  | [] => some []
  | [c] => if c = 39 then none else some [c]
  | c :: d :: r => if c = 39 then (if d = 39 then (unq r).map (39 :: ·) else none) else (unq (d :: r)).map (c :: ·)
theorem unq_dbl : ∀ t : List UInt8, unq (dbl t) = some t
  | [] => rfl
  | c :: r => by
    have ih := unq_dbl r
    unfold dbl
    split
    · rename_i h
      subst h
      unfold unq
      rw [if_pos rfl, if_pos rfl, ih]; rfl
    · rename_i h
      cases hd : dbl r with
      | nil =>
        rw [hd] at ih
        have : r = [] := by unfold unq at ih; simpa using ih.symm
        subst this
        unfold unq
        rw [if_neg h]
      | cons d q =>
        rw [hd] at ih
        unfold unq
        rw [if_neg h, ih]; rfl
theorem unq_some : ∀ (l t : List UInt8), unq l = some t → dbl t = l ∧ rep2 l = t
  | [], t, h => by unfold unq at h; cases h; exact ⟨rfl, rfl⟩
  | [c], t, h => by
    unfold unq at h
    split at h
    · cases h
    · rename_i hc
      cases h
      refine ⟨?_, rfl⟩
      unfold dbl
      rw [if_neg hc]; rfl
  | c :: d :: r, t, h => by
    unfold unq at h
    split at h
    · rename_i hc
      split at h
      · rename_i hd
        cases hu : unq r with
        | none => rw [hu] at h; cases h
        | some t' =>
          rw [hu] at h
          cases h
          obtain ⟨h1, h2⟩ := unq_some r t' hu
          refine ⟨?_, ?_⟩
          · unfold dbl; rw [if_pos rfl, h1, hc, hd]
          · unfold rep2; rw [if_pos ⟨hc, hd⟩, h2]
      · cases h
    · rename_i hc
      cases hu : unq (d :: r) with
      | none => rw [hu] at h; cases h
      | some t' =>
        rw [hu] at h
        cases h
        obtain ⟨h1, h2⟩ := unq_some (d :: r) t' hu
        refine ⟨?_, ?_⟩
        · unfold dbl; rw [if_neg hc, h1]
        · unfold rep2; rw [if_neg (fun e => hc e.1), h2]
theorem unq_none (l : List UInt8) (h : unq l = none) : dbl (rep2 l) ≠ l := by
  intro e
  have := unq_dbl (rep2 l)
  rw [e, h] at this
  cases this
theorem dbl_len : ∀ l : List UInt8, (dbl l).length ≤ 2 * l.length
  | [] => by simp [dbl]
  | c :: r => by
    have := dbl_len r
    unfold dbl
    split <;> simp <;> omega
theorem rep2_len : ∀ l : List UInt8, (rep2 l).length ≤ l.length
  | [] => by simp [rep2]
  | [c] => by simp [rep2]
  | c :: d :: r => by
    have h1 := rep2_len r
    have h2 := rep2_len (d :: r)
    unfold rep2
    split
    · simp; omega
    · simp only [List.length_cons] at h2 ⊢; omega

/-! ### the library's ReplaceAll -/
def rk (old new s : List UInt8) : List UInt8 := replaceK old new (count s old) s
theorem replaceAll_rk (s old new : List UInt8) (h : (old == new) = false) : replaceAll s old new = rk old new s := by
  unfold replaceAll replace rk
  rw [if_neg (by rw [h]; simp)]
  unfold replaceNum
  rw [if_pos (.inl (by omega))]
theorem rk_hit (old new s : List UInt8) (hne : old ≠ []) (h : occAt s old 0 = true) : rk old new s = new ++ rk old new (s.drop old.length) := by
  have hi : index s old = ((0 : Nat) : Int) := index_hit (NoOcc.zero _ _) (Nat.zero_le _) h
  unfold rk
  rw [count_hit hne hi, Nat.add_comm, replaceK_hit old new _ s 0 hi]
  simp
theorem rk_miss (old new : List UInt8) (c : UInt8) (t : List UInt8) (hne : old ≠ []) (h : occAt (c :: t) old 0 = false) : rk old new (c :: t) = c :: rk old new t := by
  have h1 : NoOcc (c :: t) old 1 := (NoOcc.zero _ _).succ h
  have hi := index_drop h1 (by simp)
  simp only [List.drop_succ_cons, List.drop_zero] at hi
  unfold rk
  have hg := index_ge t old
  by_cases hm : index t old = -1
  · have hi2 : index (c :: t) old = -1 := by rw [hi, if_pos (by rw [hm]; rfl)]
    rw [count_miss hm, count_miss hi2]; rfl
  · obtain ⟨i, hi3⟩ : ∃ i : Nat, index t old = i := ⟨(index t old).toNat, by omega⟩
    have hi2 : index (c :: t) old = ((i + 1 : Nat) : Int) := by rw [hi, if_neg (by simp [hm]), hi3]; rfl
    have e : (c :: t).drop (i + 1 + old.length) = t.drop (i + old.length) := by
      have e1 : i + 1 + old.length = (i + old.length) + 1 := by omega
      rw [e1, List.drop_succ_cons]
    rw [count_hit hne hi2, count_hit hne hi3, e, Nat.add_comm 1, replaceK_hit old new _ (c :: t) (i + 1) hi2, replaceK_hit old new _ t i hi3, e]
    simp
theorem rk_nil (old new : List UInt8) (hne : old ≠ []) : rk old new [] = [] := by
  have hi : index [] old = -1 := by
    cases old with
    | nil => exact absurd rfl hne
    | cons a b => rfl
  unfold rk
  rw [count_miss hi]; rfl
theorem repl_dbl : ∀ s : List UInt8, rk [39] [39, 39] s = dbl s
  | [] => rk_nil _ _ (by simp)
  | c :: t => by
    unfold dbl
    by_cases h : c = 39
    · subst h
      rw [if_pos rfl, rk_hit _ _ _ (by simp) (by simp [occAt, List.isPrefixOf])]
      show [39, 39] ++ rk [39] [39, 39] t = _
      rw [repl_dbl t]; rfl
    · rw [if_neg h, rk_miss _ _ _ _ (by simp) (by simp [occAt, List.isPrefixOf, Ne.symm h]), repl_dbl t]
theorem repl_rep2 : ∀ s : List UInt8, rk [39, 39] [39] s = rep2 s
  | [] => rk_nil _ _ (by simp)
  | [c] => by rw [rk_miss _ _ _ _ (by simp) (by simp [occAt, List.isPrefixOf]), rk_nil _ _ (by simp)]; rfl
  | c :: d :: r => by
    unfold rep2
    by_cases h : c = 39 ∧ d = 39
    · obtain ⟨rfl, rfl⟩ := h
      rw [if_pos ⟨rfl, rfl⟩, rk_hit _ _ _ (by simp) (by simp [occAt, List.isPrefixOf])]
      show [39] ++ rk [39, 39] [39] r = _
      rw [repl_rep2 r]; rfl
    · rw [if_neg h, rk_miss _ _ _ _ (by simp) ?_, repl_rep2 (d :: r)]
      simp only [occAt, List.drop_zero, List.isPrefixOf, Bool.and_true, Bool.and_eq_false_iff, beq_eq_false_iff_ne]
      by_cases hc : c = 39
      · right; intro e; exact h ⟨hc, e.symm⟩
      · left; exact fun e => hc e.symm
theorem replaceAll_dbl (s : List UInt8) : replaceAll s [39] [39, 39] = dbl s := by rw [replaceAll_rk _ _ _ rfl, repl_dbl]
theorem replaceAll_rep2 (s : List UInt8) : replaceAll s [39, 39] [39] = rep2 s := by rw [replaceAll_rk _ _ _ rfl, repl_rep2]
end Go.Proofs.YtpjbcadelmjmfaaGreatDoor
