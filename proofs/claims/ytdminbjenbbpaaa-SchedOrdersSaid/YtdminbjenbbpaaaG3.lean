/- bits.Div64 by a divisor of less than 32 bits. -/
import Derived.Test.YtdminbjenbbpaaaG2
import Derived.Test.YtdminbjenbbpaaaShelf2
import Derived.Test.YtdminbjenbbpaaaS8
import Derived.IntWalk
import Derived.Lib.Hide
import Derived.Laws.BitsAllLaws
namespace Go.Proofs.Ytdminbjenbbpaaa
open Go.RowKit

def DivPost (w : World) (q : Nat) (e : Ending) (w' : World) : Prop := ∃ r, e = .returned (.tuple #[.int .u64 (q : Int), r]) ∧ ∃ m, w.drewN m = w'
theorem lz_any (y : Nat) (h0 : 0 < y) (h : y < 4294967296) (w : World) : Calls Try.prog 54 #[.int .u64 (y : Int)] w fun e w' => e = .returned (.int .i64 ((64 - Lib.bitLen y : Nat) : Int)) ∧ w = w' := by
  obtain ⟨_, _, h3, _⟩ := shift_full y h0 h
  refine (Try.bits_LeadingZeros64 (y : Int) w (by omega) (by omega)).mono ?_
  rintro e w' ⟨he, rfl⟩
  refine ⟨?_, rfl⟩
  rw [he, Int.toNat_natCast]
  congr 2
  omega
theorem div_small2 (hi lo y s : Nat) (hy : 0 < y) (hlo : lo < 18446744073709551616) (hh : hi < y) (hs : s ≤ 63) (hs32 : 32 ≤ s) (hn1 : 9223372036854775808 ≤ y * 2 ^ s) (hn2 : y * 2 ^ s < 18446744073709551616) :
    y * 2 ^ s % 4294967296 = 0 ∧ hi * 2 ^ s + lo / 2 ^ (64 - s) < y * 2 ^ s ∧ (hi * 2 ^ s + lo / 2 ^ (64 - s)) / (y * 2 ^ s / 4294967296) < 4294967296 ∧
      ((hi * 2 ^ s + lo / 2 ^ (64 - s)) % (y * 2 ^ s / 4294967296) * 4294967296 + lo * 2 ^ s % 18446744073709551616 / 4294967296) / (y * 2 ^ s / 4294967296) < 4294967296 ∧
      (hi * 2 ^ s + lo / 2 ^ (64 - s)) / (y * 2 ^ s / 4294967296) * 4294967296 + ((hi * 2 ^ s + lo / 2 ^ (64 - s)) % (y * 2 ^ s / 4294967296) * 4294967296 + lo * 2 ^ s % 18446744073709551616 / 4294967296) / (y * 2 ^ s / 4294967296) = (hi * 18446744073709551616 + lo) / y :=
  div_small hi lo y s hy hlo hh hs hs32 hn1 hn2
theorem half_key (U u1 q1 yn r1 P1 Y X : Nat) (hY : Y = yn * 4294967296) (hP1 : P1 = q1 * yn) (h : P1 + r1 = U) (hX : X = r1 * 4294967296 + u1) : U * 4294967296 + u1 = q1 * Y + X := by
  have : q1 * Y = P1 * 4294967296 := by rw [hY, ← Nat.mul_assoc, ← hP1]
  rw [this]; omega
theorem u64w (n : Nat) (h : n < 18446744073709551616) : IntKind.u64.wrap (n : Int) = (n : Int) := IntWalk.u64_in _ (by omega)
theorem and_low (n : Nat) (h : n < 18446744073709551616) : bits .and .u64 (n : Int) 4294967295 = ((n % 4294967296 : Nat) : Int) := by
  rw [show (4294967295 : Int) = ((4294967295 : Nat) : Int) from rfl, u64_and_nat n 4294967295 h (by omega)]
  rw [show (4294967295 : Nat) = 2 ^ 32 - 1 from rfl, Nat.and_two_pow_sub_one_eq_mod]
theorem or_low (a b s : Nat) (hb : b < 2 ^ s) (h : a * 2 ^ s + b < 18446744073709551616) : bits .or .u64 ((a * 2 ^ s : Nat) : Int) (b : Int) = ((a * 2 ^ s + b : Nat) : Int) := by
  rw [u64_or_nat _ _ (by omega) (by omega), Nat.mul_comm a, ← Nat.two_pow_add_eq_or_of_lt hb]
set_option maxHeartbeats 2000000 in
set_option maxRecDepth 100000 in
theorem div64_small (hi lo y : Nat) (hy : 0 < y) (hy32 : y < 4294967296) (hlo : lo < 18446744073709551616) (hh : hi < y) (w : World) :
    Calls Try.prog 49 #[.int .u64 (hi : Int), .int .u64 (lo : Int), .int .u64 (y : Int)] w (DivPost w ((hi * 18446744073709551616 + lo) / y)) := by
  by_cases hz : hi = 0
  · subst hz
    refine (div64_lo lo y hlo (by omega) hy w).mono ?_
    rintro e w' ⟨he, hm⟩
    exact ⟨_, by rw [he, Nat.zero_mul, Nat.zero_add], hm⟩
  · obtain ⟨N, hN⟩ : ∃ N, N = (hi * 18446744073709551616 + lo) / y := ⟨_, rfl⟩
    rw [← hN]
    generalize hpost : DivPost w N = post
    have hlz := lz_any y hy hy32
    obtain ⟨s1, s2, s3, s4, s5, s6⟩ := shift_full y hy hy32
    have hd := div_small2 hi lo y (64 - Lib.bitLen y) hy hlo hh s2 s1 s5 s6
    generalize 64 - Lib.bitLen y = s at *
    clear s3 s4
    have h1 : ((y : Int) == 0) = false := by simp; omega
    have h2 : ¬ ((y : Int) ≤ (hi : Int)) := by omega
    have h3 : ((hi : Int) == 0) = false := by simp; omega
    rw [← hN] at hd
    obtain ⟨m1, m2, m3, m4, m5⟩ := hd
    have hl1 : lo / 2 ^ (64 - s) < 2 ^ s := by
      rw [Nat.div_lt_iff_lt_mul (Nat.two_pow_pos _), ← Nat.pow_add, show s + (64 - s) = 64 by omega]; exact hlo
    have hA : hi * 2 ^ s < 18446744073709551616 := Nat.lt_of_le_of_lt (Nat.le_add_right _ _) (Nat.lt_trans m2 s6)
    have hun32 : hi * 2 ^ s + lo / 2 ^ (64 - s) < 18446744073709551616 := Nat.lt_trans m2 s6
    have e1 : IntKind.u64.wrap ((y : Int) * 2 ^ s) = ((y * 2 ^ s : Nat) : Int) := by
      rw [show (y : Int) * 2 ^ s = ((y * 2 ^ s : Nat) : Int) by rw [Int.natCast_mul, Int.natCast_pow]; rfl]; exact u64w _ s6
    have e2 := and_low (y * 2 ^ s) s6
    rw [m1] at e2
    have e4 : IntKind.u64.wrap ((hi : Int) * 2 ^ s) = ((hi * 2 ^ s : Nat) : Int) := by
      rw [show (hi : Int) * 2 ^ s = ((hi * 2 ^ s : Nat) : Int) by rw [Int.natCast_mul, Int.natCast_pow]; rfl]; exact u64w _ hA
    have e5 : (lo : Int) / 2 ^ (64 - s) = ((lo / 2 ^ (64 - s) : Nat) : Int) := by rw [Int.natCast_ediv, Int.natCast_pow]; rfl
    have e6 := or_low hi (lo / 2 ^ (64 - s)) s hl1 hun32
    have e7 : IntKind.u64.wrap ((lo : Int) * 2 ^ s) = ((lo * 2 ^ s % 18446744073709551616 : Nat) : Int) := by
      rw [show (lo : Int) * 2 ^ s = ((lo * 2 ^ s : Nat) : Int) by rw [Int.natCast_mul, Int.natCast_pow]; rfl]
      rw [IntKind.wrap_u64]; omega
    have u10 : lo * 2 ^ s % 18446744073709551616 < 18446744073709551616 := Nat.mod_lt _ (by omega)
    have e9 := and_low _ u10
    have hyn : 0 < y * 2 ^ s / 4294967296 := by omega
    have hY : y * 2 ^ s = y * 2 ^ s / 4294967296 * 4294967296 := by omega
    obtain ⟨u, hu⟩ : ∃ u, u = lo * 2 ^ s % 18446744073709551616 := ⟨_, rfl⟩
    obtain ⟨Y, hYY⟩ : ∃ Y, Y = y * 2 ^ s := ⟨_, rfl⟩
    obtain ⟨A, hAA⟩ : ∃ A, A = hi * 2 ^ s := ⟨_, rfl⟩
    obtain ⟨Bq, hBq⟩ : ∃ Bq, Bq = lo / 2 ^ (64 - s) := ⟨_, rfl⟩
    rw [← hu] at e7 e9 u10 m4 m5
    rw [← hYY] at m1 m2 m3 m4 m5 s5 s6 e1 e2 hyn hY
    rw [← hAA] at m2 m3 m4 m5 e4 e6 hA hun32
    rw [← hBq] at m2 m3 m4 m5 e5 e6 hun32
    obtain ⟨yn, hyy⟩ : ∃ yn, yn = Y / 4294967296 := ⟨_, rfl⟩
    obtain ⟨U, hUU⟩ : ∃ U, U = A + Bq := ⟨_, rfl⟩
    rw [← hyy] at m3 m4 m5 hyn hY
    rw [← hUU] at m2 m3 m4 m5 e6 hun32
    have hq := Nat.div_add_mod U yn
    have hm := Nat.mod_lt U hyn
    obtain ⟨q1, hq1⟩ : ∃ q1, q1 = U / yn := ⟨_, rfl⟩
    obtain ⟨r1, hr1⟩ : ∃ r1, r1 = U % yn := ⟨_, rfl⟩
    rw [← hq1] at m3 m5 hq
    rw [← hr1] at m4 m5 hq hm
    obtain ⟨u1, hu1⟩ : ∃ u1, u1 = u / 4294967296 := ⟨_, rfl⟩
    obtain ⟨u0, hu0⟩ : ∃ u0, u0 = u % 4294967296 := ⟨_, rfl⟩
    have u1b : u1 < 4294967296 := by omega
    rw [← hu1] at m4 m5
    rw [← hu0] at e9
    have hq0 := Nat.div_add_mod (r1 * 4294967296 + u1) yn
    obtain ⟨q0, hqq0⟩ : ∃ q0, q0 = (r1 * 4294967296 + u1) / yn := ⟨_, rfl⟩
    rw [← hqq0] at m4 m5 hq0
    have f3 : (Y : Int) / 4294967296 = (yn : Int) := by omega
    have f8 : (u : Int) / 4294967296 = (u1 : Int) := by omega
    have hYI : (Y : Int) = (yn : Int) * 4294967296 := by omega
    clear hl1 hlo hh hy32
    replace hlz := Lib.hid hlz
    replace hpost := Lib.hid hpost
    have hq1yn : q1 * yn + r1 = U := by rw [Nat.mul_comm q1]; exact hq
    have hq0yn : q0 * yn + (r1 * 4294967296 + u1) % yn = r1 * 4294967296 + u1 := by rw [Nat.mul_comm q0]; exact hq0
    have hr0 := Nat.mod_lt (r1 * 4294967296 + u1) hyn
    obtain ⟨r0, hr0e⟩ : ∃ r0, r0 = (r1 * 4294967296 + u1) % yn := ⟨_, rfl⟩
    rw [← hr0e] at hq0yn hr0
    obtain ⟨X, hX⟩ : ∃ X, X = r1 * 4294967296 + u1 := ⟨_, rfl⟩
    rw [← hX] at hq0yn
    obtain ⟨P1, hP1⟩ : ∃ P1, P1 = q1 * yn := ⟨_, rfl⟩
    obtain ⟨P0, hP0⟩ : ∃ P0, P0 = q0 * yn := ⟨_, rfl⟩
    rw [← hP1] at hq1yn
    rw [← hP0] at hq0yn
    have hynb : yn < 4294967296 := by omega
    have g1 : IntKind.u64.wrap ((U : Int) / (yn : Int)) = (q1 : Int) := by rw [← Int.natCast_ediv, ← hq1]; exact u64w _ (by omega)
    have g2 : IntKind.u64.wrap ((q1 : Int) * (yn : Int)) = (P1 : Int) := by rw [← Int.natCast_mul, ← hP1]; exact u64w _ (by omega)
    have g3 : IntKind.u64.wrap ((U : Int) - (P1 : Int)) = (r1 : Int) := by rw [show (U : Int) - (P1 : Int) = (r1 : Int) by omega]; exact u64w _ (by omega)
    have g4 : ¬ ((4294967296 : Int) ≤ (q1 : Int)) := by omega
    have g4d : decide ((4294967296 : Int) ≤ (q1 : Int)) = false := decide_eq_false g4
    have g5 : IntKind.u64.wrap (4294967296 * (r1 : Int)) = ((r1 * 4294967296 : Nat) : Int) := by rw [show 4294967296 * (r1 : Int) = ((r1 * 4294967296 : Nat) : Int) by omega]; exact u64w _ (by omega)
    have g6 : IntKind.u64.wrap (((r1 * 4294967296 : Nat) : Int) + (u1 : Int)) = (X : Int) := by rw [show ((r1 * 4294967296 : Nat) : Int) + (u1 : Int) = (X : Int) by omega]; exact u64w _ (by omega)
    obtain ⟨c1, hc1⟩ : ∃ c1, c1 = r1 * 4294967296 := ⟨_, rfl⟩
    rw [← hc1] at g5 g6
    have g7 : ¬ ((X : Int) < 0) := by omega
    have g7d : decide ((X : Int) < 0) = false := decide_eq_false g7
    replace g7 := Lib.hid g7
    replace g4 := Lib.hid g4
    -- the second half
    have hKK := half_key U u1 q1 yn r1 P1 Y X hY hP1 hq1yn hX
    obtain ⟨K1, hK1⟩ : ∃ K1, K1 = q1 * Y := ⟨_, rfl⟩
    rw [← hK1] at hKK
    obtain ⟨d1, hd1⟩ : ∃ d1, d1 = U * 4294967296 % 18446744073709551616 := ⟨_, rfl⟩
    obtain ⟨d2, hd2⟩ : ∃ d2, d2 = (d1 + u1) % 18446744073709551616 := ⟨_, rfl⟩
    obtain ⟨d3, hd3⟩ : ∃ d3, d3 = K1 % 18446744073709551616 := ⟨_, rfl⟩
    have k1 : IntKind.u64.wrap ((U : Int) * 4294967296) = (d1 : Int) := by rw [IntKind.wrap_u64]; omega
    have k2 : IntKind.u64.wrap ((d1 : Int) + (u1 : Int)) = (d2 : Int) := by rw [IntKind.wrap_u64]; omega
    have k3 : IntKind.u64.wrap ((q1 : Int) * (Y : Int)) = (d3 : Int) := by rw [← Int.natCast_mul, ← hK1, IntKind.wrap_u64]; omega
    have hXb : X < 18446744073709551616 := by omega
    have k4 : IntKind.u64.wrap ((d2 : Int) - (d3 : Int)) = (X : Int) := by rw [IntKind.wrap_u64]; omega
    have k5 : IntKind.u64.wrap ((X : Int) / (yn : Int)) = (q0 : Int) := by rw [← Int.natCast_ediv, hX, ← hqq0]; exact u64w _ (by omega)
    have k6 : IntKind.u64.wrap ((q0 : Int) * (yn : Int)) = (P0 : Int) := by rw [← Int.natCast_mul, ← hP0]; exact u64w _ (by omega)
    have k7 : IntKind.u64.wrap ((X : Int) - (P0 : Int)) = (r0 : Int) := by rw [show (X : Int) - (P0 : Int) = (r0 : Int) by omega]; exact u64w _ (by omega)
    have k8 : ¬ ((4294967296 : Int) ≤ (q0 : Int)) := by omega
    replace k8 := Lib.hid k8
    have k8d : decide ((4294967296 : Int) ≤ (q0 : Int)) = false := decide_eq_false k8.out
    obtain ⟨c2, hc2⟩ : ∃ c2, c2 = r0 * 4294967296 := ⟨_, rfl⟩
    obtain ⟨c3, hc3⟩ : ∃ c3, c3 = c2 + u0 := ⟨_, rfl⟩
    have k9 : IntKind.u64.wrap (4294967296 * (r0 : Int)) = (c2 : Int) := by rw [show 4294967296 * (r0 : Int) = (c2 : Int) by omega]; exact u64w _ (by omega)
    have k10 : IntKind.u64.wrap ((c2 : Int) + (u0 : Int)) = (c3 : Int) := by rw [show (c2 : Int) + (u0 : Int) = (c3 : Int) by omega]; exact u64w _ (by omega)
    have k11d : decide ((c3 : Int) < 0) = false := decide_eq_false (by omega)
    obtain ⟨c4, hc4⟩ : ∃ c4, c4 = q1 * 4294967296 := ⟨_, rfl⟩
    have k12 : IntKind.u64.wrap ((q1 : Int) * 4294967296) = (c4 : Int) := by rw [show (q1 : Int) * 4294967296 = (c4 : Int) by omega]; exact u64w _ (by omega)
    have k13 : IntKind.u64.wrap ((c4 : Int) + (q0 : Int)) = (N : Int) := by rw [show (c4 : Int) + (q0 : Int) = (N : Int) by omega]; exact u64w _ (by omega)
    have hfin : ∀ r, post (.returned (.tuple #[.int .u64 (N : Int), .int .u64 r])) w := fun r => by rw [← hpost]; exact ⟨_, rfl, 0, rfl⟩
    replace hfin := Lib.hid hfin
    clear hq hq0 u1b hynb u10 hA hun32
    replace s5 := Lib.hid s5
    replace s6 := Lib.hid s6
    replace hYY := Lib.hid hYY
    replace hyy := Lib.hid hyy
    replace hUU := Lib.hid hUU
    replace hq1 := Lib.hid hq1
    replace hr1 := Lib.hid hr1
    replace hqq0 := Lib.hid hqq0
    replace m1 := Lib.hid m1
    replace m2 := Lib.hid m2
    replace m3 := Lib.hid m3
    replace m4 := Lib.hid m4
    replace m5 := Lib.hid m5
    replace hu := Lib.hid hu
    replace hAA := Lib.hid hAA
    replace hBq := Lib.hid hBq
    replace hu1 := Lib.hid hu1
    replace hu0 := Lib.hid hu0
    replace hY := Lib.hid hY
    replace hm := Lib.hid hm
    replace hYI := Lib.hid hYI
    replace hN := Lib.hid hN
    replace hq1yn := Lib.hid hq1yn
    replace hq0yn := Lib.hid hq0yn
    replace hr0 := Lib.hid hr0
    replace hr0e := Lib.hid hr0e
    replace hX := Lib.hid hX
    replace hP1 := Lib.hid hP1
    replace hP0 := Lib.hid hP0
    replace hc1 := Lib.hid hc1
    replace hKK := Lib.hid hKK
    replace hK1 := Lib.hid hK1
    replace hd1 := Lib.hid hd1
    replace hd2 := Lib.hid hd2
    replace hd3 := Lib.hid hd3
    replace hc2 := Lib.hid hc2
    replace hc3 := Lib.hid hc3
    replace hc4 := Lib.hid hc4
    replace hXb := Lib.hid hXb
    replace hlz := Lib.hid hlz
    replace hpost := Lib.hid hpost
    go_enter Try.func49, Try.ntmps49
    go_wp2_with fail
    refine (hlz.out _).mono ?_
    rintro e w' ⟨rfl, rfl⟩
    go_wp2_with fail
    refine wp_loop_rounds 1 ?_
    rw [rounds_succ]
    go_wp2_with fail
    refine wp_loop_rounds 1 ?_
    rw [rounds_succ]
    go_wp2_with fail
    exact hfin.out _
end Go.Proofs.Ytdminbjenbbpaaa
