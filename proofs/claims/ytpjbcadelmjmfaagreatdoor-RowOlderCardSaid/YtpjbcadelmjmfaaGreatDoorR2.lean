/- Walks: Column.Fits, row.valid. -/
import Derived.Test.YtpjbcadelmjmfaaGreatDoorR1
namespace Go.Proofs.YtpjbcadelmjmfaaGreatDoor
open Go.RowKit Go.Lib

theorem infoCol : (Tryz.prog.info? 78).map (fun i => (i.zero, i.size)) = some (some (.agg #[.string ByteArray.empty, .int .u8 0, .bool false, .int .i64 0, .int .u8 0, .bool false, .int .i64 0, .string ByteArray.empty, .bool false]), 9) := by kernel_rfl

def f1B (kn : Bool) (ct : Nat) (cn : Bool) (v : RV) : Bool := !kn || ((v.ty : Int) != (ct : Int)) || (v.nl && !cn)
def f2B (v : RV) : Bool := ((v.nl || ((v.ty : Int) != 1)) && (v.n != 0)) || ((v.nl || ((v.ty : Int) != 2)) && !v.tx.data.toList.isEmpty) || ((v.nl || ((v.ty : Int) != 3)) && v.b)
def f3B (v : RV) : Bool := decide (v.n < -2147483648) || decide (2147483647 < v.n) || !validD v.tx.data.toList
theorem bne_nat (a b : Nat) : ((a : Int) != (b : Int)) = decide (a ≠ b) := by rw [Bool.eq_iff_iff]; simp; omega
theorem f2_iff (v : RV) : f2B v = true ↔ ((v.n ≠ 0 ∧ (v.nl = true ∨ v.ty ≠ 1)) ∨ (v.tx.data.toList ≠ [] ∧ (v.nl = true ∨ v.ty ≠ 2)) ∨ (v.b = true ∧ (v.nl = true ∨ v.ty ≠ 3))) := by
  obtain ⟨ty, nl, n, tx, b⟩ := v
  unfold f2B
  simp only
  have e1 : ((ty : Int) != 1) = decide (ty ≠ 1) := bne_nat ty 1
  have e2 : ((ty : Int) != 2) = decide (ty ≠ 2) := bne_nat ty 2
  have e3 : ((ty : Int) != 3) = decide (ty ≠ 3) := bne_nat ty 3
  rw [e1, e2, e3]
  have el : (!tx.data.toList.isEmpty) = decide (tx.data.toList ≠ []) := by cases tx.data.toList <;> simp
  rw [el]
  simp only [Bool.or_eq_true, Bool.and_eq_true, decide_eq_true_eq, bne_iff_ne, or_assoc]
  constructor
  · rintro (⟨h1, h2⟩ | ⟨h1, h2⟩ | ⟨h1, h2⟩)
    · exact .inl ⟨h2, h1⟩
    · exact .inr (.inl ⟨h2, h1⟩)
    · exact .inr (.inr ⟨h2, h1⟩)
  · rintro (⟨h1, h2⟩ | ⟨h1, h2⟩ | ⟨h1, h2⟩)
    · exact .inl ⟨h2, h1⟩
    · exact .inr (.inl ⟨h2, h1⟩)
    · exact .inr (.inr ⟨h2, h1⟩)
theorem f3_iff (v : RV) : f3B v = true ↔ (v.n < -2147483648 ∨ 2147483648 ≤ v.n ∨ validD v.tx.data.toList = false) := by
  unfold f3B
  simp only [Bool.or_eq_true, decide_eq_true_eq, Bool.not_eq_true', or_assoc]
  constructor
  · rintro (h | h | h)
    · exact .inl h
    · exact .inr (.inl (by omega))
    · exact .inr (.inr h)
  · rintro (h | h | h)
    · exact .inl h
    · exact .inr (.inl (by omega))
    · exact .inr (.inr h)
theorem form_bools (v : RV) (hk : knownB v.ty = true) : formP v = if f2B v then 16 else if f3B v then 16 else if 200 < v.tx.size then 9 else 0 := by
  unfold knownB at hk
  simp only [Bool.and_eq_true, decide_eq_true_eq] at hk
  have h2 := f2_iff v
  have h3 := f3_iff v
  unfold formP
  by_cases c2 : f2B v = true
  · rw [if_pos c2, if_pos (.inr (.inr (h2.1 c2)))]
  · rw [if_neg c2, if_neg (fun e => by
      rcases e with e | e | e
      · omega
      · omega
      · exact c2 (h2.2 e))]
    by_cases c3 : f3B v = true
    · rw [if_pos c3, if_pos (h3.1 c3)]
    · rw [if_neg c3, if_neg (fun e => c3 (h3.2 e))]
theorem fits_bools (ct : Nat) (cn : Bool) (v : RV) : fitsP ct cn v = if f1B (knownB ct) ct cn v then 16 else if f2B v then 16 else if f3B v then 16 else if 200 < v.tx.size then 9 else 0 := by
  unfold fitsP f1B
  rw [bne_nat]
  by_cases h1 : v.ty = ct
  · have e1 : decide (v.ty ≠ ct) = false := by simp [h1]
    rw [e1, Bool.or_false]
    by_cases h2 : v.nl = true ∧ cn = false
    · rw [if_pos (.inr h2), if_pos (by rw [h2.1, h2.2]; simp)]
    · rw [if_neg (by rintro (h | h); exact h h1; exact h2 h)]
      have e2 : (v.nl && !cn) = false := by
        cases hn : v.nl <;> cases hc : cn <;> simp_all
      rw [e2, Bool.or_false]
      cases hk : knownB ct
      · simp only [Bool.not_false, if_true]
        unfold formP
        rw [if_pos]
        unfold knownB at hk
        simp only [Bool.and_eq_false_iff, decide_eq_false_iff_not] at hk
        omega
      · simp only [Bool.not_true, Bool.false_eq_true, if_false]
        exact form_bools v (by rw [h1]; exact hk)
  · rw [if_pos (.inl h1)]
    simp [h1]
end Go.Proofs.YtpjbcadelmjmfaaGreatDoor
