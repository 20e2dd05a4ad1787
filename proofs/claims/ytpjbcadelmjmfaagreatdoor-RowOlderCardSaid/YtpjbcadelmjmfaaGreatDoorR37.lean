/- The walk of Version. -/
import Derived.Test.YtpjbcadelmjmfaaGreatDoorR11
import Derived.Test.YtpjbcadelmjmfaaGreatDoorLib
namespace Go.Proofs.YtpjbcadelmjmfaaGreatDoor
open Go.RowKit Go.Lib
set_option linter.unusedVariables false

theorem or_i64 (a b : Nat) (ha : a < 256) (hb : b < 256) : bits .or .i64 (a : Int) ((b : Int) * 256) = (a : Int) + 256 * (b : Int) := by
  have hb2 : ((b : Int) * 256) = ((b * 256 : Nat) : Int) := by omega
  have h1 : (BitVec.ofInt 64 (a : Int)).toNat = a := by
    rw [BitVec.ofInt_natCast, BitVec.toNat_ofNat]; exact Nat.mod_eq_of_lt (by omega)
  have h2 : (BitVec.ofInt 64 ((b * 256 : Nat) : Int)).toNat = b * 256 := by
    rw [BitVec.ofInt_natCast, BitVec.toNat_ofNat]; exact Nat.mod_eq_of_lt (by omega)
  have h3 : a ||| b * 256 = a + b * 256 := by
    have := Nat.two_pow_add_eq_or_of_lt (i := 8) (b := a) (by omega) b
    rw [Nat.or_comm]
    have e : 2 ^ 8 * b = b * 256 := by omega
    rw [e] at this
    omega
  rw [hb2]
  show IntKind.i64.wrap ((BitVec.ofInt 64 (a : Int) ||| BitVec.ofInt 64 ((b * 256 : Nat) : Int)).toNat : Int) = _
  rw [BitVec.toNat_or, h1, h2, h3, IntWalk.i64_in _ (by omega)]
  omega
set_option maxHeartbeats 4000000 in
set_option maxRecDepth 100000 in
theorem version_any (a b : Nat) (r : List Nat) (ha : a < 256) (hb : b < 256) (hab : ¬ (a = 0 ∧ b = 0)) (hlen : (a :: b :: r).length ≤ 1000000) (h3 : 3 ≤ (a :: b :: r).length) (sa : Option Addr) (sc : Nat) (w : World) (hr : Rd w (.slice sa (a :: b :: r).length sc) (a :: b :: r).length (bcells (a :: b :: r))) :
    Calls Tryz.prog 21 #[.slice sa (a :: b :: r).length sc] w (fun e w' => e = .returned (.tuple #[.int .i64 ((a : Int) + 256 * (b : Int)), .int .i64 0]) ∧ Below w.heap.size w w') := by
  obtain ⟨bl, ol, cl, ea, fa⟩ := hr.cells (by omega)
  simp only [Value.slice.injEq, true_and] at ea
  obtain ⟨rfl, hcap⟩ := ea
  have c0 : w.cell? ⟨bl, ol, none⟩ = some (.int .u8 (a : Int)) := fa 0 _ rfl
  have c1 : w.cell? ⟨bl, ol + 1, none⟩ = some (.int .u8 (b : Int)) := fa 1 _ rfl
  generalize (a :: b :: r).length = n at *
  have hnI : ¬ (n : Int) < 3 := by omega
  replace hcap := Lib.hid hcap
  clear hr fa
  by_cases h0 : a = 0
  · have hb0 : b ≠ 0 := fun e => hab ⟨h0, e⟩
    have d0 : ((a : Int) == 0) = true := by simp [h0]
    have d1 : ((b : Int) == 0) = false := by simp [hb0]
    replace h0 := Lib.hid h0
    replace hb0 := Lib.hid hb0
    replace hab := Lib.hid hab
    go_enter Tryz.func21, Tryz.ntmps21
    go_upto_region 3 with fail
    have ho := or_i64 a b ha hb
    have q0 : 0 < n := by omega
    have q1 : 1 < n := by omega
    have q2 : (0 : Int) < n := by omega
    have q3 : (1 : Int) < n := by omega
    refine region_tail 10 (by kernel_rfl) (by kernel_rfl) ?_
    simp only [List.take_succ_cons, List.take_zero, List.drop_succ_cons, List.drop_zero]
    repeat still_step
    refine wpStill_nil ?_
    replace ho := Lib.hid ho
    go_wp2_with fail
    go_ret2
    refine ⟨?_, below_drew (Below.refl _ _)⟩
    show Ending.returned (.tuple #[.int .i64 (bits .or .i64 (IntKind.i64.wrap (a : Int)) (IntKind.i64.wrap (IntKind.i64.wrap (b : Int) * 256))), .int .i64 0]) = _
    rw [IntWalk.i64_in (a : Int) (by omega), IntWalk.i64_in (b : Int) (by omega), IntWalk.i64_in ((b : Int) * 256) (by omega), ho.out]
  · have d0 : ((a : Int) == 0) = false := by simp [h0]
    replace h0 := Lib.hid h0
    replace hab := Lib.hid hab
    go_enter Tryz.func21, Tryz.ntmps21
    go_upto_region 3 with fail
    have ho := or_i64 a b ha hb
    have q0 : 0 < n := by omega
    have q1 : 1 < n := by omega
    have q2 : (0 : Int) < n := by omega
    have q3 : (1 : Int) < n := by omega
    refine region_tail 10 (by kernel_rfl) (by kernel_rfl) ?_
    simp only [List.take_succ_cons, List.take_zero, List.drop_succ_cons, List.drop_zero]
    repeat still_step
    refine wpStill_nil ?_
    replace ho := Lib.hid ho
    go_wp2_with fail
    go_ret2
    refine ⟨?_, below_drew (Below.refl _ _)⟩
    show Ending.returned (.tuple #[.int .i64 (bits .or .i64 (IntKind.i64.wrap (a : Int)) (IntKind.i64.wrap (IntKind.i64.wrap (b : Int) * 256))), .int .i64 0]) = _
    rw [IntWalk.i64_in (a : Int) (by omega), IntWalk.i64_in (b : Int) (by omega), IntWalk.i64_in ((b : Int) * 256) (by omega), ho.out]
end Go.Proofs.YtpjbcadelmjmfaaGreatDoor
