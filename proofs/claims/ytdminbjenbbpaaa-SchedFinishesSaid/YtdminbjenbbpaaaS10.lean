/- Contract of Finish over a Steps machine. -/
import Derived.Test.YtdminbjenbbpaaaS1
namespace Go.Proofs.Ytdminbjenbbpaaa
open Go.RowKit

set_option maxRecDepth 100000 in
set_option maxHeartbeats 1000000 in
theorem finish_any (b : Nat) (n : Int) (bound : Nat) (w : World) (hH : Has w b [.int .i64 n] 84) (h1 : 1 ≤ n) (h2 : n ≤ 9223372036854775807) (hb : bound < 1099511627776) :
    Calls Try.prog 23 #[.iface 46 (.pointer (some ⟨b, 0, none⟩)), .int .i64 bound] w fun e w' => e = .returned (.bool (decide (n ≤ bound))) ∧ Has w' b [.int .i64 (n - min n bound)] 84 ∧ Only (fun k => k = b) w w' := by
  go_enter Try.func23, Try.ntmps23
  go_wp2_with fail
  go_loopw [5] (fun i wr => ∃ k : Nat, i = .int .i64 k ∧ k ≤ bound ∧ (k : Int) < n ∧ Has wr b [.int .i64 (n - k)] 84 ∧ Only (fun k => k = b) w wr) (fun i _ => bound - (intOf i).toNat)
  case atStart => exact ⟨0, rfl, Nat.zero_le _, by omega, by simpa using hH, Only.refl _ _⟩
  case round =>
    obtain ⟨k, rfl, hk, hkn, hHr, hO⟩ := hrel
    by_cases hlt : k < bound
    · have hst := Lib.hid (step_any b (n - k) wr (hHr.cell rfl) (hHr.free 0) (by omega) (by omega))
      have hset := hHr.set 0 (.int .i64 (max (n - k - 1) 0))
      have hOn := Lib.hid (hO.setCell (a := ⟨b, 0, none⟩) (fun _ => rfl) (.int .i64 (max (n - k - 1) 0)))
      replace hset := Lib.hid hset
      clear hHr
      by_cases hend : n - k ≤ 1
      · rw [decide_eq_true hend] at hst
        have he : n = k + 1 := by omega
        have hd : decide (n ≤ (bound : Int)) = true := by simp; omega
        replace he := Lib.hid he
        go_wp2_with fail
        refine hst.out.mono ?_
        rintro e w' ⟨rfl, rfl⟩
        go_wp2_with fail
        go_ret
        have he := he.out
        refine ⟨by rw [hd]; rfl, ?_, hOn.out⟩
        have := hset.out
        rw [show n - min n (bound : Int) = max (n - k - 1) 0 from by omega]
        simpa using this
      · rw [decide_eq_false hend] at hst
        go_wp2_with fail
        refine hst.out.mono ?_
        rintro e w' ⟨rfl, rfl⟩
        go_wp2_with fail
        go_roundw
        case rel =>
          refine ⟨k + 1, by go_num, by omega, by omega, ?_, hOn.out⟩
          have := hset.out
          rw [show n - ((k + 1 : Nat) : Int) = max (n - k - 1) 0 from by omega]
          simpa using this
        case measure => simp [intOf]; omega
    · have hkb : k = bound := by omega
      replace hkb := Lib.hid hkb
      have hd : decide (n ≤ (bound : Int)) = false := by have := hkb.out; simp; omega
      go_wp2_with fail
      go_ret
      refine ⟨by rw [hd]; rfl, ?_, hO⟩
      have := hkb.out
      rw [show n - min n (bound : Int) = n - k from by omega]
      exact hHr
end Go.Proofs.Ytdminbjenbbpaaa
