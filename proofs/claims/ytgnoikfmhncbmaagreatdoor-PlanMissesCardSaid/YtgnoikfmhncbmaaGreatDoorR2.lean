/- Walks: the law's value and back, number, known, Column.Fits, row.valid. Walks: Column.Fits, row.valid. -/
import Derived.Test.YtgnoikfmhncbmaaGreatDoorR0
import Derived.Test.YtgnoikfmhncbmaaGreatDoorNum
set_option linter.unusedVariables false
set_option linter.unusedSimpArgs false
namespace Go.Proofs.YtgnoikfmhncbmaaGreatDoor
open Go.RowKit Go.Lib

theorem value_any (ty : Nat) (nl : Bool) (n : Int) (tx : ByteArray) (b : Bool) (h : ty < 256) (w : World) :
    Calls Tryz.prog 14 #[.agg #[.int .u8 (ty : Int), .bool nl, .int .i64 n, .string tx, .bool b]] w (RPost w (.agg #[.int .i64 (ty : Int), .bool nl, .int .i64 n, .string tx, .bool b])) := by
  have hE := Has.new w [.int .u8 (ty : Int), .bool nl, .int .i64 n, .string tx, .bool b] 28
  have e0 := hE.cell (o := 0) rfl
  have e1 := hE.cell (o := 1) rfl
  have e2 := hE.cell (o := 2) rfl
  have e3 := hE.cell (o := 3) rfl
  have e4 := hE.cell (o := 4) rfl
  go_enter Tryz.func14, Tryz.ntmps14
  go_wp2_with fail
  refine bodyPost_ret (v := .agg #[.int .i64 (ty : Int), .bool nl, .int .i64 n, .string tx, .bool b]) (by simp [results, Tryz.results14, go_sem]) rfl ?_
  exact ⟨rfl, ((Below.refl _ _).alloc (Nat.le_refl _) _).alloc (by simp) _⟩
theorem number_any (b : Bool) (w : World) : Calls Tryz.prog 69 #[.bool b] w fun e w' => e = .returned (.int .i64 (b2i b)) ∧ w = w' := by
  cases b
  · go_enter Tryz.func69, Tryz.ntmps69
    go_wp2
    go_ret
    exact ⟨rfl, rfl⟩
  · go_enter Tryz.func69, Tryz.ntmps69
    go_wp2
    go_ret
    exact ⟨rfl, rfl⟩
def knownB (ty : Nat) : Bool := decide (1 ≤ ty) && decide (ty ≤ 3)
theorem known_any (ty : Nat) (w : World) : Calls Tryz.prog 101 #[.int .u8 (ty : Int)] w fun e w' => e = .returned (.bool (knownB ty)) ∧ w = w' := by
  obtain ⟨c1, g1⟩ : ∃ c, ((ty : Int) == 1) = c := ⟨_, rfl⟩
  obtain ⟨c2, g2⟩ : ∃ c, ((ty : Int) == 2) = c := ⟨_, rfl⟩
  obtain ⟨c3, g3⟩ : ∃ c, ((ty : Int) == 3) = c := ⟨_, rfl⟩
  have hk : knownB ty = (c1 || (c2 || c3)) := by
    rw [← g1, ← g2, ← g3, Bool.eq_iff_iff]
    unfold knownB
    simp
    omega
  rw [hk]
  clear hk
  cases c1 <;> cases c2 <;> cases c3
  all_goals
    go_enter Tryz.func101, Tryz.ntmps101
    go_wp2_with fail
    go_ret
    exact ⟨rfl, rfl⟩
end Go.Proofs.YtgnoikfmhncbmaaGreatDoor

namespace Go.Proofs.YtgnoikfmhncbmaaGreatDoor
open Go.RowKit Go.Lib

theorem infoCol : (Tryz.prog.info? 108).map (fun i => (i.zero, i.size)) = some (some (.agg #[.string ByteArray.empty, .int .u8 0, .bool false, .int .i64 0, .int .u8 0, .bool false, .int .i64 0, .string ByteArray.empty, .bool false]), 9) := by kernel_rfl

def f1B (kn : Bool) (ct : Nat) (cn : Bool) (v : RV) : Bool := !kn || ((v.ty : Int) != (ct : Int)) || (v.nl && !cn)
def f2B (v : RV) : Bool := ((v.nl || ((v.ty : Int) != 1)) && (v.n != 0)) || ((v.nl || ((v.ty : Int) != 2)) && !v.tx.data.toList.isEmpty) || ((v.nl || ((v.ty : Int) != 3)) && v.b)
def f3B (v : RV) : Bool := decide (v.n < -2147483648) || decide (2147483647 < v.n) || !validD v.tx.data.toList
theorem bne_nat (a b : Nat) : ((a : Int) != (b : Int)) = decide (a ≠ b) := by rw [Bool.eq_iff_iff]; simp; omega
theorem f2_iff (v : RV) : f2B v = true ↔ ((v.n ≠ 0 ∧ (v.nl = true ∨ v.ty ≠ 1)) ∨ (v.tx.data.toList ≠ [] ∧ (v.nl = true ∨ v.ty ≠ 2)) ∨ (v.b = true ∧ (v.nl = true ∨ v.ty ≠ 3))) := by
  obtain ⟨ty, nl, n, tx, b⟩ := v
  unfold f2B
  simp only
  have e1 : ((ty : Int) != 1) = decide (ty ≠ 1) := bne_nat ty 1
  have e2 : ((ty : Int) != 2) = decide (ty ≠ 2) := bne_nat ty 2
  have e3 : ((ty : Int) != 3) = decide (ty ≠ 3) := bne_nat ty 3
  rw [e1, e2, e3]
  have el : (!tx.data.toList.isEmpty) = decide (tx.data.toList ≠ []) := by cases tx.data.toList <;> simp
  rw [el]
  simp only [Bool.or_eq_true, Bool.and_eq_true, decide_eq_true_eq, bne_iff_ne, or_assoc]
  constructor
  · rintro (⟨h1, h2⟩ | ⟨h1, h2⟩ | ⟨h1, h2⟩)
    · exact .inl ⟨h2, h1⟩
    · exact .inr (.inl ⟨h2, h1⟩)
    · exact .inr (.inr ⟨h2, h1⟩)
  · rintro (⟨h1, h2⟩ | ⟨h1, h2⟩ | ⟨h1, h2⟩)
    · exact .inl ⟨h2, h1⟩
    · exact .inr (.inl ⟨h2, h1⟩)
    · exact .inr (.inr ⟨h2, h1⟩)
theorem f3_iff (v : RV) : f3B v = true ↔ (v.n < -2147483648 ∨ 2147483648 ≤ v.n ∨ validD v.tx.data.toList = false) := by
  unfold f3B
  simp only [Bool.or_eq_true, decide_eq_true_eq, Bool.not_eq_true', or_assoc]
  constructor
  · rintro (h | h | h)
    · exact .inl h
    · exact .inr (.inl (by omega))
    · exact .inr (.inr h)
  · rintro (h | h | h)
    · exact .inl h
    · exact .inr (.inl (by omega))
    · exact .inr (.inr h)
theorem form_bools (v : RV) (hk : knownB v.ty = true) : formP v = if f2B v then 16 else if f3B v then 16 else if 200 < v.tx.size then 9 else 0 := by
  unfold knownB at hk
  simp only [Bool.and_eq_true, decide_eq_true_eq] at hk
  have h2 := f2_iff v
  have h3 := f3_iff v
  unfold formP
  by_cases c2 : f2B v = true
  · rw [if_pos c2, if_pos (.inr (.inr (h2.1 c2)))]
  · rw [if_neg c2, if_neg (fun e => by
      rcases e with e | e | e
      · omega
      · omega
      · exact c2 (h2.2 e))]
    by_cases c3 : f3B v = true
    · rw [if_pos c3, if_pos (h3.1 c3)]
    · rw [if_neg c3, if_neg (fun e => c3 (h3.2 e))]
theorem fits_bools (ct : Nat) (cn : Bool) (v : RV) : fitsP ct cn v = if f1B (knownB ct) ct cn v then 16 else if f2B v then 16 else if f3B v then 16 else if 200 < v.tx.size then 9 else 0 := by
  unfold fitsP f1B
  rw [bne_nat]
  by_cases h1 : v.ty = ct
  · have e1 : decide (v.ty ≠ ct) = false := by simp [h1]
    rw [e1, Bool.or_false]
    by_cases h2 : v.nl = true ∧ cn = false
    · rw [if_pos (.inr h2), if_pos (by rw [h2.1, h2.2]; simp)]
    · rw [if_neg (by rintro (h | h); exact h h1; exact h2 h)]
      have e2 : (v.nl && !cn) = false := by
        cases hn : v.nl <;> cases hc : cn <;> simp_all
      rw [e2, Bool.or_false]
      cases hk : knownB ct
      · simp only [Bool.not_false, if_true]
        unfold formP
        rw [if_pos]
        unfold knownB at hk
        simp only [Bool.and_eq_false_iff, decide_eq_false_iff_not] at hk
        omega
      · simp only [Bool.not_true, Bool.false_eq_true, if_false]
        exact form_bools v (by rw [h1]; exact hk)
  · rw [if_pos (.inl h1)]
    simp [h1]
end Go.Proofs.YtgnoikfmhncbmaaGreatDoor
