/- The order of values, plain: the program's and the reference's agree, and it is an order. No program in sight. -/
import Derived.Test.YtpjbcadelmjmfaaGreatDoorEnc
import Derived.Lib.Bytealg
import Derived.Lib.Small
namespace Go.Proofs.YtpjbcadelmjmfaaGreatDoor
open Go.Lib

theorem cb_range : ∀ a b : List UInt8, compareBytes a b = -1 ∨ compareBytes a b = 0 ∨ compareBytes a b = 1
  | [], [] => by simp [compareBytes]
  | [], _ :: _ => by simp [compareBytes]
  | _ :: _, [] => by simp [compareBytes]
  | a :: as, b :: bs => by
    have := cb_range as bs
    unfold compareBytes
    split
    · simp
    · split
      · simp
      · exact this
theorem cb_neg : ∀ a b : List UInt8, compareBytes b a = - compareBytes a b
  | [], [] => by simp [compareBytes]
  | [], _ :: _ => by simp [compareBytes]
  | _ :: _, [] => by simp [compareBytes]
  | a :: as, b :: bs => by
    have ih := cb_neg as bs
    unfold compareBytes
    by_cases h1 : a < b
    · have h2 : ¬ b < a := by rw [UInt8.lt_iff_toNat_lt] at *; omega
      rw [if_pos h1, if_neg h2, if_pos h1]; rfl
    · by_cases h2 : b < a
      · rw [if_pos h2, if_neg h1, if_pos h2]
      · rw [if_neg h1, if_neg h2, if_neg h2, if_neg h1, ih]
theorem cb_self (a : List UInt8) : compareBytes a a = 0 := by
  have := cb_neg a a
  omega
theorem cb_eq : ∀ a b : List UInt8, compareBytes a b = 0 → a = b
  | [], [], _ => rfl
  | [], _ :: _, h => by simp [compareBytes] at h
  | _ :: _, [], h => by simp [compareBytes] at h
  | a :: as, b :: bs, h => by
    unfold compareBytes at h
    split at h
    · cases h
    · rename_i h1
      split at h
      · cases h
      · rename_i h2
        have e : a = b := by
          rw [UInt8.lt_iff_toNat_lt] at *
          exact UInt8.toNat_inj.1 (by omega)
        rw [e, cb_eq as bs h]
theorem cb_trans : ∀ a b c : List UInt8, compareBytes a b ≤ 0 → compareBytes b c ≤ 0 → compareBytes a c ≤ 0
  | [], b, c, _, _ => by cases c <;> simp [compareBytes]
  | a :: as, [], c, h, _ => by simp [compareBytes] at h
  | a :: as, b :: bs, [], _, h => by simp [compareBytes] at h
  | a :: as, b :: bs, c :: cs, h1, h2 => by
    have ih := cb_trans as bs cs
    unfold compareBytes at h1 h2 ⊢
    simp only [UInt8.lt_iff_toNat_lt] at *
    by_cases ac : a.toNat < c.toNat
    · rw [if_pos ac]; omega
    · rw [if_neg ac]
      by_cases ca : c.toNat < a.toNat
      · exfalso
        by_cases ab : a.toNat < b.toNat
        · rw [if_neg (show ¬ b.toNat < c.toNat by omega), if_pos (show c.toNat < b.toNat by omega)] at h2
          omega
        · rw [if_neg ab] at h1
          by_cases ba : b.toNat < a.toNat
          · rw [if_pos ba] at h1; omega
          · rw [if_neg (show ¬ b.toNat < c.toNat by omega), if_pos (show c.toNat < b.toNat by omega)] at h2
            omega
      · rw [if_neg ca]
        by_cases ab : a.toNat < b.toNat
        · rw [if_neg (show ¬ b.toNat < c.toNat by omega), if_pos (show c.toNat < b.toNat by omega)] at h2
          omega
        · rw [if_neg ab] at h1
          by_cases ba : b.toNat < a.toNat
          · rw [if_pos ba] at h1; omega
          · rw [if_neg ba] at h1
            rw [if_neg (show ¬ b.toNat < c.toNat by omega), if_neg (show ¬ c.toNat < b.toNat by omega)] at h2
            exact ih h1 h2

def b2i (b : Bool) : Int := if b then 1 else 0
/-- The program's: the first of four comparisons that is not 0. -/
def cmpV (a b : RV) : Int :=
  if compareInt (b2i b.nl) (b2i a.nl) ≠ 0 then compareInt (b2i b.nl) (b2i a.nl)
  else if compareInt a.n b.n ≠ 0 then compareInt a.n b.n
  else if compareInt (b2i a.b) (b2i b.b) ≠ 0 then compareInt (b2i a.b) (b2i b.b)
  else compareBytes a.tx.data.toList b.tx.data.toList
def rankV (v : RV) : Int := if v.nl then -1099511627776 else if v.b then 1 else v.n
/-- The reference's. -/
def cmpR (a b : RV) : Int :=
  if rankV a < rankV b ∨ compareBytes a.tx.data.toList b.tx.data.toList < 0 then -1
  else if rankV b < rankV a ∨ 0 < compareBytes a.tx.data.toList b.tx.data.toList then 1 else 0
theorem emp_list : ByteArray.empty.data.toList = [] := rfl
/-- At valid values of one type: by rank, then by text; only texts that are not null have a text, and their rank is 0. -/
theorem cmp_rank {a b : RV} (ha : formP a = 0) (hb : formP b = 0) (ht : a.ty = b.ty) :
    cmpV a b = if rankV a < rankV b then -1 else if rankV b < rankV a then 1 else compareBytes a.tx.data.toList b.tx.data.toList := by
  obtain ⟨a0, a1, a2, a3, a4, _, _⟩ := form_parts ha
  obtain ⟨b0, b1, b2, b3, b4, _, _⟩ := form_parts hb
  obtain ⟨ta, na, ia, xa, ba⟩ := a
  obtain ⟨tb, nb, ib, xb, bb⟩ := b
  simp only at *
  subst ht
  unfold cmpV rankV compareInt b2i
  simp only
  obtain rfl | rfl | rfl : ta = 1 ∨ ta = 2 ∨ ta = 3 := by omega
  · obtain rfl := a2 (.inl (by omega))
    obtain rfl := b2 (.inl (by omega))
    obtain rfl := a3 (.inl (by omega))
    obtain rfl := b3 (.inl (by omega))
    cases na <;> cases nb <;> simp at * <;> (repeat' split) <;> first | rfl | omega
  · obtain rfl := a1 (.inl (by omega))
    obtain rfl := b1 (.inl (by omega))
    obtain rfl := a3 (.inl (by omega))
    obtain rfl := b3 (.inl (by omega))
    cases na <;> cases nb <;> simp at * <;> (repeat' split) <;> first | rfl | omega
  · obtain rfl := a1 (.inl (by omega))
    obtain rfl := b1 (.inl (by omega))
    obtain rfl := a2 (.inl (by omega))
    obtain rfl := b2 (.inl (by omega))
    cases na <;> cases nb <;> cases ba <;> cases bb <;> simp at * <;> rfl
theorem rank_text {a b : RV} (ha : formP a = 0) (hb : formP b = 0) (ht : a.ty = b.ty) :
    (rankV a < rankV b → 0 ≥ compareBytes a.tx.data.toList b.tx.data.toList) ∧ (rankV b < rankV a → 0 ≤ compareBytes a.tx.data.toList b.tx.data.toList) := by
  obtain ⟨a0, a1, a2, a3, a4, _, _⟩ := form_parts ha
  obtain ⟨b0, b1, b2, b3, b4, _, _⟩ := form_parts hb
  obtain ⟨ta, na, ia, xa, ba⟩ := a
  obtain ⟨tb, nb, ib, xb, bb⟩ := b
  simp only at *
  subst ht
  have e1 : ∀ l, compareBytes [] l ≤ 0 := fun l => by cases l <;> simp [compareBytes]
  have e2 : ∀ l, 0 ≤ compareBytes l [] := fun l => by cases l <;> simp [compareBytes]
  by_cases h2 : ta = 2
  · subst h2
    obtain rfl := a1 (.inl (by omega))
    obtain rfl := b1 (.inl (by omega))
    obtain rfl := a3 (.inl (by omega))
    obtain rfl := b3 (.inl (by omega))
    unfold rankV
    cases na
    · cases nb
      · simp
      · obtain rfl := b2 (.inr rfl)
        simp only [emp_list]
        exact ⟨fun h => by simp at h, fun _ => e2 _⟩
    · obtain rfl := a2 (.inr rfl)
      simp only [emp_list]
      exact ⟨fun _ => e1 _, fun h => by cases nb <;> simp at h⟩
  · obtain rfl := a2 (.inl h2)
    obtain rfl := b2 (.inl h2)
    rw [cb_self]
    exact ⟨fun _ => Int.le_refl _, fun _ => Int.le_refl _⟩
theorem cmp_same {a b : RV} (ha : formP a = 0) (hb : formP b = 0) (ht : a.ty = b.ty) : cmpV a b = cmpR a b := by
  obtain ⟨h1, h2⟩ := rank_text ha hb ht
  have hr := cb_range a.tx.data.toList b.tx.data.toList
  rw [cmp_rank ha hb ht]
  unfold cmpR
  (repeat' split) <;> omega
theorem cmp_neg {a b : RV} (ha : formP a = 0) (hb : formP b = 0) (ht : a.ty = b.ty) : cmpV b a = - cmpV a b := by
  rw [cmp_rank ha hb ht, cmp_rank hb ha ht.symm, cb_neg a.tx.data.toList]
  (repeat' split) <;> omega
theorem cmp_self {a : RV} (ha : formP a = 0) : cmpV a a = 0 := by
  have := cmp_neg ha ha rfl
  omega
theorem cmp_range {a b : RV} (ha : formP a = 0) (hb : formP b = 0) (ht : a.ty = b.ty) : cmpV a b = -1 ∨ cmpV a b = 0 ∨ cmpV a b = 1 := by
  have hr := cb_range a.tx.data.toList b.tx.data.toList
  rw [cmp_rank ha hb ht]
  (repeat' split) <;> omega
theorem cmp_trans {a b c : RV} (ha : formP a = 0) (hb : formP b = 0) (hc : formP c = 0) (h1 : a.ty = b.ty) (h2 : b.ty = c.ty) :
    (cmpV a b ≤ 0 → cmpV b c ≤ 0 → cmpV a c ≤ 0) ∧ (cmpV a b = 0 → cmpV b c = cmpV a c) := by
  rw [cmp_rank ha hb h1, cmp_rank hb hc h2, cmp_rank ha hc (h1.trans h2)]
  have t1 := cb_trans a.tx.data.toList b.tx.data.toList c.tx.data.toList
  refine ⟨?_, ?_⟩
  · (repeat' split) <;> first | omega | (intro h3 h4; exact t1 h3 h4)
  · intro h
    split at h
    · cases h
    · split at h
      · cases h
      · have e := cb_eq _ _ h
        have er : rankV a = rankV b := by omega
        rw [e, er]
end Go.Proofs.YtpjbcadelmjmfaaGreatDoor
