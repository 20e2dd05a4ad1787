/- Plain: what Count counts; the length of a number in bits. -/
import Derived.Test.YtdminbjenbbpaaaG1
import Derived.Lib.BitFns
namespace Go.Proofs.Ytdminbjenbbpaaa
open Go.Lib

theorem bitLen_one : bitLen 1 = 1 := by decide
theorem bitLen_bounds : ∀ n y, y ≤ n → 0 < y → y < 18446744073709551616 → 1 ≤ bitLen y ∧ 2 ^ (bitLen y - 1) ≤ y ∧ y < 2 ^ bitLen y
  | 0, y, h, h0, _ => absurd h0 (by omega)
  | n + 1, y, h, h0, h64 => by
    by_cases e : y = 1
    · subst e; rw [bitLen_one]; decide
    · obtain ⟨a, b, c⟩ := bitLen_bounds n (y / 2) (by omega) (by omega) (by omega)
      have hb := bitLen_half y (by omega) h64
      generalize bitLen (y / 2) = k at *
      rw [hb]
      have e1 : 2 ^ (1 + k) = 2 * 2 ^ k := by rw [Nat.pow_add]
      have e2 : 2 ^ (1 + k - 1) = 2 * 2 ^ (k - 1) := by rw [show 1 + k - 1 = 1 + (k - 1) by omega, Nat.pow_add]
      rw [e1, e2]
      omega
/-- A divisor of less than 32 bits, shifted to its full length. -/
theorem shift_full (y : Nat) (h0 : 0 < y) (h : y < 4294967296) : 32 ≤ 64 - bitLen y ∧ 64 - bitLen y ≤ 63 ∧ bitLen y ≤ 32 ∧ 1 ≤ bitLen y ∧ 9223372036854775808 ≤ y * 2 ^ (64 - bitLen y) ∧ y * 2 ^ (64 - bitLen y) < 18446744073709551616 := by
  obtain ⟨a, b, c⟩ := bitLen_bounds y y (Nat.le_refl _) h0 (by omega)
  have hk : bitLen y ≤ 32 := by
    rcases Nat.lt_or_ge 32 (bitLen y) with h1 | h1
    · have : 2 ^ 32 ≤ 2 ^ (bitLen y - 1) := Nat.pow_le_pow_right (by omega) (by omega)
      omega
    · exact h1
  generalize bitLen y = k at *
  have e1 : 2 ^ (k - 1) * 2 ^ (64 - k) = 9223372036854775808 := by rw [← Nat.pow_add, show k - 1 + (64 - k) = 63 by omega]
  have e2 : 2 ^ k * 2 ^ (64 - k) = 18446744073709551616 := by rw [← Nat.pow_add, show k + (64 - k) = 64 by omega]
  refine ⟨by omega, by omega, hk, a, ?_, ?_⟩
  · rw [← e1]; exact Nat.mul_le_mul_right _ b
  · rw [← e2]; exact Nat.mul_lt_mul_of_pos_right c (Nat.two_pow_pos _)

/-! ### Count -/
def most : Nat := 4611686018427387904
/-- choose, as it answers. -/
def chooseV (n k : Nat) : Nat × Bool := if bin n k ≤ most then (bin n k, true) else (0, false)
/-- Total and product, exactly. -/
def cntS (st : Nat × Nat) (s : Int) : Nat × Nat := if s ≤ 0 then st else (st.1 + s.toNat, if st.1 = 0 then st.2 else st.2 * bin (st.1 + s.toNat) (min st.1 s.toNat))
def cntP (l : List Int) : Nat := (l.foldl cntS (0, 1)).2
def countV (l : List Int) : Nat × Bool := if cntP l ≤ most then (cntP l, true) else (most, false)
theorem cntS_pos (st : Nat × Nat) (s : Int) (h : 1 ≤ st.2) : st.2 ≤ (cntS st s).2 ∧ 1 ≤ (cntS st s).2 := by
  unfold cntS
  by_cases hs : s ≤ 0
  · rw [if_pos hs]; omega
  · rw [if_neg hs]
    by_cases h0 : st.1 = 0
    · simp only [if_pos h0]; omega
    · simp only [if_neg h0]
      have hb := bin_pos (st.1 + s.toNat) (min st.1 s.toNat) (by omega)
      have := Nat.mul_le_mul_left st.2 hb
      omega
theorem fold_pos : ∀ (l : List Int) (st : Nat × Nat), 1 ≤ st.2 → st.2 ≤ (l.foldl cntS st).2 ∧ 1 ≤ (l.foldl cntS st).2
  | [], st, h => ⟨Nat.le_refl _, h⟩
  | s :: l, st, h => by
    obtain ⟨a, b⟩ := cntS_pos st s h
    obtain ⟨c, d⟩ := fold_pos l _ b
    exact ⟨Nat.le_trans a c, d⟩
/-- A product that is too great stays so. -/
theorem cnt_over (l : List Int) (k : Nat) (h : most < ((l.take k).foldl cntS (0, 1)).2) : countV l = (most, false) := by
  have hp := (fold_pos (l.take k) (0, 1) (Nat.le_refl _)).2
  have : ((l.take k).foldl cntS (0, 1)).2 ≤ cntP l := by
    have := (fold_pos (l.drop k) ((l.take k).foldl cntS (0, 1)) hp).1
    rw [← List.foldl_append, List.take_append_drop] at this
    exact this
  unfold countV
  rw [if_neg (by omega)]
theorem cnt_take (l : List Int) (k : Nat) (h : k < l.length) : (l.take (k + 1)).foldl cntS (0, 1) = cntS ((l.take k).foldl cntS (0, 1)) (l.getD k 0) := by
  rw [List.take_add_one, List.getElem?_eq_getElem h]
  simp only [Option.toList, List.foldl_append, List.foldl_cons, List.foldl_nil]
  rw [List.getD_eq_getElem?_getD, List.getElem?_eq_getElem h, Option.getD_some]
/-- The total is bounded. -/
theorem cnt_total (N : Nat) : ∀ (l : List Int) (st : Nat × Nat), (∀ s ∈ l, s ≤ (N : Int)) → (l.foldl cntS st).1 ≤ st.1 + l.length * N
  | [], st, _ => by simp
  | s :: l, st, h => by
    have h1 := cnt_total N l (cntS st s) (fun x hx => h x (List.mem_cons_of_mem _ hx))
    have h2 : (cntS st s).1 ≤ st.1 + N := by
      have := h s (List.mem_cons_self ..)
      unfold cntS; split
      · omega
      · simp only; omega
    simp only [List.foldl_cons, List.length_cons]
    rw [Nat.add_mul, Nat.one_mul]; omega
/-- Two sizes. -/
theorem cntP_two (x y : Nat) : cntP [(x : Int), (y : Int)] = bin (x + y) x := by
  unfold cntP
  simp only [List.foldl_cons, List.foldl_nil]
  by_cases hx : x = 0
  · subst hx
    rw [bin_zero]
    unfold cntS
    rw [if_pos (by omega : ((0 : Nat) : Int) ≤ 0)]
    split
    · rfl
    · rfl
  · have e1 : cntS (0, 1) (x : Int) = (x, 1) := by unfold cntS; rw [if_neg (by omega)]; simp
    rw [e1]
    by_cases hy : y = 0
    · subst hy
      unfold cntS
      rw [if_pos (by omega : ((0 : Nat) : Int) ≤ 0)]
      exact (bin_self x).symm
    · unfold cntS
      rw [if_neg (by omega)]
      simp only [if_neg hx, Int.toNat_natCast, Nat.one_mul]
      rcases Nat.le_total x y with h | h
      · rw [Nat.min_eq_left h]
      · rw [Nat.min_eq_right h]; exact bin_sym (x + y) y x (by omega)
end Go.Proofs.Ytdminbjenbbpaaa
