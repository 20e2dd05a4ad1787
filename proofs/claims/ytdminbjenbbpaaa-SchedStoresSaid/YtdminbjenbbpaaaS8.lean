/- Div64 where the high word is 0; choose and Count at the statement's own small arguments. -/
import Derived.Test.YtdminbjenbbpaaaS1
import Derived.Test.YtdminbjenbbpaaaShelf
import Derived.LoopN
namespace Go.Proofs.Ytdminbjenbbpaaa
open Go.RowKit

set_option maxHeartbeats 1000000 in
theorem div64_lo (lo y : Nat) (hl : lo < 18446744073709551616) (hy : y < 18446744073709551616) (h0 : 0 < y) (w : World) :
    Calls Try.prog 49 #[.int .u64 0, .int .u64 lo, .int .u64 y] w fun e w' => e = .returned (.tuple #[.int .u64 ((lo / y : Nat) : Int), .int .u64 ((lo % y : Nat) : Int)]) ∧ ∃ m, w.drewN m = w' := by
  have hd : lo / y ≤ lo := Nat.div_le_self _ _
  have h1 : ((y : Int) == 0) = false := by simp; omega
  have h2 : ¬ ((y : Int) ≤ 0) := by omega
  go_enter Try.func49, Try.ntmps49
  go_wp2_with fail
  go_quiet (fail)
  go_wp2_with fail
  go_ret2
  refine ⟨ret2_eq ?_ ?_, _, rfl⟩
  · show Value.int .u64 (IntKind.u64.wrap ((lo / y : Nat) : Int)) = _
    generalize lo / y = q at hd ⊢
    rw [IntWalk.u64_in _ (by omega)]
  · rfl

set_option maxHeartbeats 1000000 in
theorem choose31 (w : World) : Calls Try.prog 37 #[.int .u64 3, .int .u64 1] w fun e w' => e = .returned (.tuple #[.int .u64 3, .bool true]) ∧ ∃ m, w.drewN m = w' := by
  go_enter Try.func37, Try.ntmps37
  go_wp2_with fail
  refine wp_loop_rounds 2 ?_
  rw [rounds_succ]
  go_wp2_with (first | (go_at_call 38; refine (Try.bits_Mul64 1 3 (by decide) (by decide) _).mono ?_; rintro e w' ⟨rfl, rfl⟩) | (go_at_call 49; refine (div64_lo 3 1 (by decide) (by decide) (by decide) _).mono ?_; rintro e w' ⟨rfl, m, rfl⟩))
  rw [rounds_succ]
  go_wp2_with fail
  go_ret2
  exact ⟨rfl, _, rfl⟩

set_option maxHeartbeats 1000000 in
theorem count21 (v : Value) (w : World) (hv : Rd w v 2 [.int .i64 2, .int .i64 1]) : Calls Try.prog 17 #[v] w fun e w' => e = .returned (.tuple #[.int .u64 3, .bool true]) ∧ ∃ m, w.drewN m = w' := by
  obtain ⟨b, off, cap, rfl, hc⟩ := hv.cells (by decide)
  have c0 : w.cell? ⟨b, off, none⟩ = some (.int .i64 2) := hc 0 _ rfl
  have c1 := hc 1 _ rfl
  clear hc hv
  go_enter Try.func17, Try.ntmps17
  go_wp2_with fail
  refine wp_loop_rounds 3 ?_
  rw [rounds_succ]
  go_wp2_with fail
  rw [rounds_succ]
  go_wp2_with (first | (go_at_call 37; refine (choose31 _).mono ?_; rintro e w' ⟨rfl, m, rfl⟩) | (go_at_call 38; refine (Try.bits_Mul64 1 3 (by decide) (by decide) _).mono ?_; rintro e w' ⟨rfl, rfl⟩))
  rw [rounds_succ]
  go_wp2_with fail
  go_ret2
  exact ⟨rfl, _, rfl⟩
end Go.Proofs.Ytdminbjenbbpaaa
