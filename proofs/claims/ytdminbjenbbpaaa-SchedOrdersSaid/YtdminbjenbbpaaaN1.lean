/- Plain: the long division of 128 bits by 64, half by half. -/
import Derived.KernelRfl
namespace Go.Proofs.Ytdminbjenbbpaaa.DivPlain

/-- One half: the estimate that passes both tests is the quotient. -/
theorem half_le (un32 un1 yn1 yn0 q r : Nat) (hq : q * yn1 + r = un32) (h : q * yn0 ≤ 4294967296 * r + un1) : q * (yn1 * 4294967296 + yn0) ≤ un32 * 4294967296 + un1 := by
  have e : q * (yn1 * 4294967296 + yn0) = (q * yn1) * 4294967296 + q * yn0 := by
    rw [Nat.mul_add, Nat.mul_assoc]
  rw [e]; omega
theorem half_gt (un32 un1 yn1 yn0 q r : Nat) (hq : q * yn1 + r = un32) (h : 4294967296 * r + un1 < q * yn0) : un32 * 4294967296 + un1 < q * (yn1 * 4294967296 + yn0) := by
  have e : q * (yn1 * 4294967296 + yn0) = (q * yn1) * 4294967296 + q * yn0 := by
    rw [Nat.mul_add, Nat.mul_assoc]
  rw [e]; omega
theorem lt_of_gt (U y q : Nat) (h : U < q * y) : U / y < q := by
  by_cases hy : y = 0
  · subst hy; simp at h
  · exact (Nat.div_lt_iff_lt_mul (by omega)).2 h
theorem le_of_le (U y q : Nat) (hy : 0 < y) (h : q * y ≤ U) : q ≤ U / y := (Nat.le_div_iff_mul_le hy).2 h
/-- The first estimate is at most two too great. -/
theorem est_le (un32 yn1 yn0 : Nat) (h1 : 2147483648 ≤ yn1) (h0 : yn0 < 4294967296) (hu : un32 < yn1 * 4294967296 + yn0) : un32 / yn1 ≤ 4294967297 := by
  apply Nat.le_of_lt_succ
  rw [Nat.div_lt_iff_lt_mul (by omega)]
  omega
theorem est_ge (un32 un1 yn1 yn0 : Nat) (h1 : 2147483648 ≤ yn1) (hun : un1 < 4294967296) : (un32 * 4294967296 + un1) / (yn1 * 4294967296 + yn0) ≤ un32 / yn1 := by
  apply Nat.le_of_lt_succ
  apply lt_of_gt
  have h := Nat.lt_mul_div_succ un32 (show 0 < yn1 by omega)
  have e : (un32 / yn1 + 1) * (yn1 * 4294967296 + yn0) = (yn1 * (un32 / yn1 + 1)) * 4294967296 + (un32 / yn1 + 1) * yn0 := by
    rw [Nat.mul_add, ← Nat.mul_assoc, Nat.mul_comm (un32 / yn1 + 1) yn1]
  show _ < (un32 / yn1 + 1) * _
  rw [e]; omega
theorem quo_lt (un32 un1 y : Nat) (hun : un1 < 4294967296) (h : un32 < y) : (un32 * 4294967296 + un1) / y < 4294967296 := by
  rw [Nat.div_lt_iff_lt_mul (by omega)]; omega
/-- Two halves make the whole. -/
theorem two_halves (K un32 un1 un0 y : Nat) (hy : 0 < y) :
    (un32 * K + un1) / y * K + ((un32 * K + un1) % y * K + un0) / y = (un32 * (K * K) + (un1 * K + un0)) / y ∧
    ((un32 * K + un1) % y * K + un0) % y = (un32 * (K * K) + (un1 * K + un0)) % y := by
  have hd := Nat.div_add_mod (un32 * K + un1) y
  generalize (un32 * K + un1) / y = q at *
  generalize (un32 * K + un1) % y = r at *
  have e : un32 * (K * K) + (un1 * K + un0) = y * (q * K) + (r * K + un0) := by
    have h2 : (y * q + r) * K = (un32 * K + un1) * K := by rw [hd]
    rw [Nat.add_mul, Nat.add_mul, Nat.mul_assoc, Nat.mul_assoc] at h2
    omega
  rw [e]
  constructor
  · rw [Nat.mul_add_div hy]
  · rw [Nat.mul_add_mod]
end Go.Proofs.Ytdminbjenbbpaaa.DivPlain
