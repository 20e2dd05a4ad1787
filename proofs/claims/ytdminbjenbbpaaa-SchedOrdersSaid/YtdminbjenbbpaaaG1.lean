/- Plain: binomials, Pascal's triangle cut at 2^62 + 1, the products of choose, the division by halves for a small divisor. -/
import Derived.Test.YtdminbjenbbpaaaN1
namespace Go.Proofs.Ytdminbjenbbpaaa
open DivPlain

def bin : Nat → Nat → Nat
  | _, 0 => 1
  | 0, _ + 1 => 0
  | n + 1, k + 1 => bin n k + bin n (k + 1)
theorem bin_zero (n : Nat) : bin n 0 = 1 := by cases n <;> rfl
theorem bin_succ (n k : Nat) : bin (n + 1) (k + 1) = bin n k + bin n (k + 1) := rfl
theorem bin_over : ∀ n k, n < k → bin n k = 0
  | 0, k + 1, _ => rfl
  | n + 1, k + 1, h => by rw [bin_succ, bin_over n k (by omega), bin_over n (k + 1) (by omega)]
theorem bin_self : ∀ n, bin n n = 1
  | 0 => rfl
  | n + 1 => by rw [bin_succ, bin_self n, bin_over n (n + 1) (by omega)]
theorem bin_pos : ∀ n k, k ≤ n → 1 ≤ bin n k
  | n, 0, _ => by rw [bin_zero]; omega
  | n + 1, k + 1, h => by rw [bin_succ]; have := bin_pos n k (by omega); omega
/-- (k + 1) C(n + 1, k + 1) = (n + 1) C(n, k). -/
theorem bin_absorb : ∀ n k, (k + 1) * bin (n + 1) (k + 1) = (n + 1) * bin n k
  | 0, 0 => rfl
  | 0, k + 1 => by rw [bin_succ, bin_over 0 (k + 1) (by omega), bin_over 0 (k + 2) (by omega)]; simp
  | n + 1, 0 => by
    have h := bin_absorb n 0
    rw [bin_zero n] at h
    rw [bin_succ (n + 1) 0, bin_zero (n + 1)]
    omega
  | n + 1, k + 1 => by
    have h1 := bin_absorb n k
    have h2 := bin_absorb n (k + 1)
    rw [bin_succ (n + 1) (k + 1), Nat.mul_add]
    have e1 : (k + 1 + 1) * bin (n + 1) (k + 1) = (k + 1) * bin (n + 1) (k + 1) + bin (n + 1) (k + 1) := by rw [Nat.add_mul (k + 1) 1, Nat.one_mul]
    rw [e1, h1, h2]
    have e2 : (n + 1 + 1) * bin (n + 1) (k + 1) = (n + 1) * bin (n + 1) (k + 1) + bin (n + 1) (k + 1) := by rw [Nat.add_mul (n + 1) 1, Nat.one_mul]
    have e3 : (n + 1) * bin (n + 1) (k + 1) = (n + 1) * bin n k + (n + 1) * bin n (k + 1) := by rw [bin_succ, Nat.mul_add]
    omega
/-- It is the same from either side. -/
theorem bin_sym : ∀ s a b, a + b = s → bin s a = bin s b
  | 0, a, b, h => by
    obtain rfl : a = 0 := by omega
    obtain rfl : b = 0 := by omega
    rfl
  | s + 1, 0, b, h => by
    obtain rfl : b = s + 1 := by omega
    rw [bin_zero, bin_self]
  | s + 1, a + 1, 0, h => by
    obtain rfl : a = s := by omega
    rw [bin_zero, bin_self]
  | s + 1, a + 1, b + 1, h => by
    rw [bin_succ, bin_succ, bin_sym s a (b + 1) (by omega), bin_sym s (a + 1) b (by omega)]; omega
/-- One step of choose. -/
theorem bin_step (m i : Nat) : bin (m + i) i * (m + (i + 1)) / (i + 1) = bin (m + (i + 1)) (i + 1) := by
  have h := bin_absorb (m + i) i
  rw [Nat.mul_comm (bin (m + i) i), show m + (i + 1) = m + i + 1 by omega, ← h, Nat.mul_div_cancel_left _ (by omega)]
theorem bin_mono (m i : Nat) : bin (m + i) i ≤ bin (m + (i + 1)) (i + 1) := by
  rw [show m + (i + 1) = m + i + 1 by omega, bin_succ]; omega
theorem bin_monoL (m : Nat) : ∀ i k, i ≤ k → bin (m + i) i ≤ bin (m + k) k
  | i, 0, h => by
    obtain rfl : i = 0 := by omega
    exact Nat.le_refl _
  | i, k + 1, h => by
    by_cases e : i = k + 1
    · subst e; exact Nat.le_refl _
    · exact Nat.le_trans (bin_monoL m i k (by omega)) (bin_mono m k)

/-! ### Pascal's triangle, cut -/
def cap62 : Nat := 4611686018427387905
def rowP (n : Nat) : List Nat := (List.range (n + 1)).map fun k => min (bin n k) cap62
theorem rowP_len (n : Nat) : (rowP n).length = n + 1 := by simp [rowP]
theorem rowP_get (n k : Nat) (h : k ≤ n) : (rowP n)[k]? = some (min (bin n k) cap62) := by
  unfold rowP; rw [List.getElem?_map, List.getElem?_range (by omega)]; rfl
theorem rowP_zero : rowP 0 = [1] := by decide
/-- The first k entries of row n. -/
theorem rowP_take (n k : Nat) (h : k < n + 1) : (rowP n).take (k + 1) = (rowP n).take k ++ [min (bin n k) cap62] := by
  rw [List.take_add_one, rowP_get n k (by omega)]; rfl
theorem rowP_one (n : Nat) : (rowP n).take 1 = [1] := by
  rw [rowP_take n 0 (by omega), bin_zero]; rfl
theorem rowP_all (n : Nat) : (rowP (n + 1)).take (n + 1) ++ [1] = rowP (n + 1) := by
  have h := rowP_take (n + 1) (n + 1) (by omega)
  rw [bin_self] at h
  rw [show ([1] : List Nat) = [min 1 cap62] from rfl, ← h, List.take_of_length_le (by rw [rowP_len]; omega)]
/-- An entry out of two of the row above. -/
theorem rowP_step (n k : Nat) : min (min (bin n k) cap62 + min (bin n (k + 1)) cap62) cap62 = min (bin (n + 1) (k + 1)) cap62 := by
  rw [bin_succ]; omega

/-! ### the division -/
/-- 128 bits by a divisor of less than 32 bits, by halves. -/
theorem div_small (hi lo y s : Nat) (_hy : 0 < y) (hlo : lo < 18446744073709551616) (hh : hi < y) (hs : s ≤ 63) (hs32 : 32 ≤ s) (hn1 : 9223372036854775808 ≤ y * 2 ^ s) (hn2 : y * 2 ^ s < 18446744073709551616) :
    let un32 := hi * 2 ^ s + lo / 2 ^ (64 - s)
    let un10 := lo * 2 ^ s % 18446744073709551616
    let yn1 := y * 2 ^ s / 4294967296
    y * 2 ^ s % 4294967296 = 0 ∧ un32 < y * 2 ^ s ∧ un32 / yn1 < 4294967296 ∧
      (un32 % yn1 * 4294967296 + un10 / 4294967296) / yn1 < 4294967296 ∧
      un32 / yn1 * 4294967296 + (un32 % yn1 * 4294967296 + un10 / 4294967296) / yn1 = (hi * 18446744073709551616 + lo) / y := by
  intro un32 un10 yn1
  have hp : 0 < 2 ^ s := Nat.two_pow_pos s
  have hp2 : 2 ^ s = 4294967296 * 2 ^ (s - 32) := by
    rw [show (4294967296 : Nat) = 2 ^ 32 from rfl, ← Nat.pow_add]; congr 1; omega
  have hp3 : 2 ^ s * 2 ^ (64 - s) = 18446744073709551616 := by
    rw [← Nat.pow_add, show s + (64 - s) = 64 by omega]
  have hq : 0 < 2 ^ (64 - s) := Nat.two_pow_pos _
  have e1 : y * 2 ^ s = 4294967296 * (y * 2 ^ (s - 32)) := by rw [hp2, ← Nat.mul_assoc, Nat.mul_comm y, Nat.mul_assoc]
  have hyn1 : yn1 = y * 2 ^ (s - 32) := by show y * 2 ^ s / 4294967296 = _; rw [e1, Nat.mul_div_cancel_left _ (by omega)]
  have hY : y * 2 ^ s = yn1 * 4294967296 := by rw [hyn1, e1, Nat.mul_comm]
  have hyp : 0 < yn1 := by omega
  -- un32 and un10 are the two words of the dividend, shifted
  have hl1 : lo / 2 ^ (64 - s) < 2 ^ s := by
    rw [Nat.div_lt_iff_lt_mul hq, hp3]; exact hlo
  have hun : un32 < y * 2 ^ s := by
    show hi * 2 ^ s + lo / 2 ^ (64 - s) < _
    have : (hi + 1) * 2 ^ s ≤ y * 2 ^ s := Nat.mul_le_mul_right _ hh
    rw [Nat.add_mul, Nat.one_mul] at this
    omega
  have hsh : lo * 2 ^ s = lo / 2 ^ (64 - s) * 18446744073709551616 + un10 := by
    have hd := Nat.div_add_mod (lo * 2 ^ s) 18446744073709551616
    have : lo * 2 ^ s / 18446744073709551616 = lo / 2 ^ (64 - s) := by
      rw [← hp3, Nat.mul_comm lo, Nat.mul_div_mul_left _ _ hp]
    rw [this] at hd
    show _ = _ + lo * 2 ^ s % 18446744073709551616
    omega
  have hU : (hi * 18446744073709551616 + lo) * 2 ^ s = un32 * 18446744073709551616 + un10 := by
    show _ = (hi * 2 ^ s + lo / 2 ^ (64 - s)) * 18446744073709551616 + un10
    rw [Nat.add_mul, hsh, Nat.add_mul]
    have : hi * 18446744073709551616 * 2 ^ s = hi * 2 ^ s * 18446744073709551616 := by rw [Nat.mul_assoc, Nat.mul_comm _ (2 ^ s), ← Nat.mul_assoc]
    omega
  have hun10 : un10 < 18446744073709551616 := Nat.mod_lt _ (by omega)
  have hq1 : un32 / yn1 < 4294967296 := by rw [Nat.div_lt_iff_lt_mul hyp]; omega
  have hm := Nat.mod_lt un32 hyp
  have hq0 : (un32 % yn1 * 4294967296 + un10 / 4294967296) / yn1 < 4294967296 := by
    rw [Nat.div_lt_iff_lt_mul hyp]; omega
  refine ⟨by rw [hY, Nat.mul_mod_left], hun, hq1, hq0, ?_⟩
  -- the quotient
  clear_value un32 un10 yn1
  have e2 : (un32 * 18446744073709551616 + un10) / 4294967296 = un32 * 4294967296 + un10 / 4294967296 := by
    rw [show un32 * 18446744073709551616 + un10 = un10 + 4294967296 * (un32 * 4294967296) by omega, Nat.add_mul_div_left _ _ (by omega)]; omega
  have hmain : (hi * 18446744073709551616 + lo) / y = (un32 * 4294967296 + un10 / 4294967296) / yn1 := by
    have h1 : (hi * 18446744073709551616 + lo) / y = (hi * 18446744073709551616 + lo) * 2 ^ s / (y * 2 ^ s) := (Nat.mul_div_mul_right _ _ hp).symm
    rw [h1, hU, hY, Nat.mul_comm yn1, ← Nat.div_div_eq_div_mul, e2]
  rw [hmain]
  have hd := Nat.div_add_mod un32 yn1
  have h3 : un32 * 4294967296 + un10 / 4294967296 = (un32 % yn1 * 4294967296 + un10 / 4294967296) + yn1 * (un32 / yn1 * 4294967296) := by
    have h4 : un32 * 4294967296 = (yn1 * (un32 / yn1) + un32 % yn1) * 4294967296 := by rw [hd]
    rw [h4, Nat.add_mul, Nat.mul_assoc]; omega
  rw [h3, Nat.add_mul_div_left _ _ hyp]
  exact Nat.add_comm _ _
end Go.Proofs.Ytdminbjenbbpaaa
