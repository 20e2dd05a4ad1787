/- The walk of SchedFinishes. -/
import Derived.Test.YtdminbjenbbpaaaS9
import Derived.Test.YtdminbjenbbpaaaS10
namespace Go.Proofs.Ytdminbjenbbpaaa
open Go.RowKit

set_option maxRecDepth 100000 in
set_option maxHeartbeats 2000000 in
theorem finishes_core_one (n : Int) (bn mn : Nat) (w : World) (b1 : -9223372036854775808 ≤ n ∧ n ≤ 9223372036854775807) (hn : n < 1) (a1 a2 : Int) (hbnd : 0 ≤ a1 ∧ a1 ≤ 65535) (hmnd : 0 ≤ a2 ∧ a2 ≤ 255) (hbn : a1 % 2000 = bn) (hmn1 : a2 % 5 ≤ mn) (hmn2 : (mn : Int) ≤ a2 % 5) (c : Bool) (hc : decide (1 ≤ (bn : Int)) = c) :
    Calls Try.prog 6 #[.int .i64 n, .int .u16 a1, .int .u8 a2] w fun e w' => e = .returned (.bool true) ∧ Below w.heap.size w w' := by
  have hbl : bn < 2000 := by omega
  have hml : mn < 5 := by omega
  have Hc := Lib.hid hc
  go_enter Try.func6, Try.ntmps6
  go_wp2_with fail
  refine (awake_any w).mono ?_
  rintro e w1 ⟨rfl, hB1⟩
  have hsz1 := hB1.size
  have H0 := Has.new w1 [.int .i64 (1)] 84
  have hBa := hB1.alloc hsz1 (.cells #[.int .i64 (1)] 84)
  have c0 := H0.cell (o := 0) rfl
  have hmax : max n 1 = 1 := by omega
  go_wp2_with (first | (go_at_call 21; refine (of_any _ _).mono ?_; rintro e w' ⟨rfl, rfl⟩; rw [hmax]) | (go_at_call 22; refine (left_any _ (1) _ c0).mono ?_; rintro e w' ⟨rfl, rfl⟩))
  clear hmax
  refine (finish_any w1.heap.size (1) bn _ H0 (by omega) (by omega) (by omega)).mono ?_
  rw [hc]
  clear hc c0 H0
  rintro e w2 ⟨rfl, hH2, hO2⟩
  have hB2 := hBa.trans (hO2.below (B := w.heap.size) (by simp; omega) (fun k _ e => by subst e; exact hsz1))
  clear hO2 hBa hB1
  have c2 := hH2.cell (o := 0) rfl
  cases c with
  | true =>
    have hle : (1 : Int) ≤ bn := of_decide_eq_true Hc.out
    rw [show (1 : Int) - min (1) (bn : Int) = 0 from by omega] at hH2 c2
    go_wp2_with (first | (go_at_call 22; refine (left_any _ 0 _ c2).mono ?_; rintro e w' ⟨rfl, rfl⟩))
    go_loopw [50] (fun i wr => ∃ k : Nat, i = .int .i64 k ∧ k ≤ mn ∧ Has wr w1.heap.size [.int .i64 0] 84 ∧ Below w.heap.size w wr) (fun i _ => mn - (intOf i).toNat)
    case atStart => exact ⟨0, rfl, Nat.zero_le _, hH2, hB2⟩
    case round =>
      obtain ⟨k, rfl, hk, hHr, hBr⟩ := hrel
      have hst := step_any w1.heap.size 0 wr (hHr.cell rfl) (hHr.free 0) (by omega) (by omega)
      rw [show (max (0 - 1) 0 : Int) = 0 from by decide] at hst
      replace hst := Lib.hid hst
      have hs2 := hHr.set 0 (.int .i64 0)
      replace hs2 := Lib.hid hs2
      have hBn := Lib.hid (hBr.setCell (p := ⟨w1.heap.size, 0, none⟩) hsz1 (.int .i64 0))
      by_cases hlt : k < mn
      · go_wp2_with fail
        refine hst.out.mono ?_
        rintro e w' ⟨rfl, rfl⟩
        go_wp2_with fail
        go_roundw
        case rel => first | exact ⟨k + 1, by go_num, by omega, by simpa using hs2.out, hBn.out⟩ | ((repeat apply Exists.intro); exact ⟨⟨k + 1, by go_num, by omega, by simpa using hs2.out, hBn.out⟩, rfl⟩)
        case measure => simp [intOf]; omega
      · have cr := hHr.cell (o := 0) rfl
        go_wp2_with (first | (go_at_call 22; refine (left_any _ 0 _ cr).mono ?_; rintro e w' ⟨rfl, rfl⟩))
        go_ret
        exact ⟨rfl, hBr⟩
  | false =>
    have hle : ¬ (1 : Int) ≤ bn := of_decide_eq_false Hc.out
    rw [show (1 : Int) - min (1) (bn : Int) = 1 - bn from by omega] at hH2 c2
    go_wp2_with (first | (go_at_call 22; refine (left_any _ (1 - bn) _ c2).mono ?_; rintro e w' ⟨rfl, rfl⟩))
    go_loopw [50] (fun i wr => ∃ (k : Nat) (q : Int), i = .int .i64 k ∧ k ≤ mn ∧ 0 ≤ q ∧ q ≤ 9223372036854775807 ∧ Has wr w1.heap.size [.int .i64 q] 84 ∧ Below w.heap.size w wr) (fun i _ => mn - (intOf i).toNat)
    case atStart => exact ⟨0, 1 - bn, rfl, Nat.zero_le _, by omega, by omega, hH2, hB2⟩
    case round =>
      obtain ⟨k, q, rfl, hk, hq0, hq1, hHr, hBr⟩ := hrel
      have hst := Lib.hid (step_any w1.heap.size q wr (hHr.cell rfl) (hHr.free 0) (by omega) (by omega))
      have hs2 := hHr.set 0 (.int .i64 (max (q - 1) 0))
      replace hs2 := Lib.hid hs2
      have hBn := Lib.hid (hBr.setCell (p := ⟨w1.heap.size, 0, none⟩) hsz1 (.int .i64 (max (q - 1) 0)))
      by_cases hlt : k < mn
      · go_wp2_with fail
        refine hst.out.mono ?_
        rintro e w' ⟨rfl, rfl⟩
        go_wp2_with fail
        go_roundw
        case rel => first | exact ⟨k + 1, max (q - 1) 0, by go_num, by omega, by omega, by omega, by simpa using hs2.out, hBn.out⟩ | ((repeat apply Exists.intro); exact ⟨⟨k + 1, max (q - 1) 0, by go_num, by omega, by omega, by omega, by simpa using hs2.out, hBn.out⟩, rfl⟩)
        case measure => simp [intOf]; omega
      · have cr := hHr.cell (o := 0) rfl
        by_cases hq : q = 0
        all_goals
          first | (have hqb2 : (q == 0) = true := beq_iff_eq.2 hq) | (have hqb2 : (q == 0) = false := beq_eq_false_iff_ne.2 hq)
          clear hq
          go_wp2_with (first | (go_at_call 22; refine (left_any _ q _ cr).mono ?_; rintro e w' ⟨rfl, rfl⟩))
          go_ret
          exact ⟨rfl, hBr⟩

set_option maxRecDepth 100000 in
set_option maxHeartbeats 2000000 in
theorem finishes_core_more (n : Int) (bn mn : Nat) (w : World) (b1 : -9223372036854775808 ≤ n ∧ n ≤ 9223372036854775807) (hn : ¬ n < 1) (a1 a2 : Int) (hbnd : 0 ≤ a1 ∧ a1 ≤ 65535) (hmnd : 0 ≤ a2 ∧ a2 ≤ 255) (hbn : a1 % 2000 = bn) (hmn1 : a2 % 5 ≤ mn) (hmn2 : (mn : Int) ≤ a2 % 5) (c : Bool) (hc : decide (n ≤ (bn : Int)) = c) :
    Calls Try.prog 6 #[.int .i64 n, .int .u16 a1, .int .u8 a2] w fun e w' => e = .returned (.bool true) ∧ Below w.heap.size w w' := by
  have hbl : bn < 2000 := by omega
  have hml : mn < 5 := by omega
  have Hc := Lib.hid hc
  go_enter Try.func6, Try.ntmps6
  go_wp2_with fail
  refine (awake_any w).mono ?_
  rintro e w1 ⟨rfl, hB1⟩
  have hsz1 := hB1.size
  have H0 := Has.new w1 [.int .i64 (n)] 84
  have hBa := hB1.alloc hsz1 (.cells #[.int .i64 (n)] 84)
  have c0 := H0.cell (o := 0) rfl
  have hmax : max n 1 = n := by omega
  go_wp2_with (first | (go_at_call 21; refine (of_any _ _).mono ?_; rintro e w' ⟨rfl, rfl⟩; rw [hmax]) | (go_at_call 22; refine (left_any _ (n) _ c0).mono ?_; rintro e w' ⟨rfl, rfl⟩))
  clear hmax
  refine (finish_any w1.heap.size (n) bn _ H0 (by omega) (by omega) (by omega)).mono ?_
  rw [hc]
  clear hc c0 H0
  rintro e w2 ⟨rfl, hH2, hO2⟩
  have hB2 := hBa.trans (hO2.below (B := w.heap.size) (by simp; omega) (fun k _ e => by subst e; exact hsz1))
  clear hO2 hBa hB1
  have c2 := hH2.cell (o := 0) rfl
  cases c with
  | true =>
    have hle : (n : Int) ≤ bn := of_decide_eq_true Hc.out
    rw [show (n : Int) - min (n) (bn : Int) = 0 from by omega] at hH2 c2
    go_wp2_with (first | (go_at_call 22; refine (left_any _ 0 _ c2).mono ?_; rintro e w' ⟨rfl, rfl⟩))
    go_loopw [50] (fun i wr => ∃ k : Nat, i = .int .i64 k ∧ k ≤ mn ∧ Has wr w1.heap.size [.int .i64 0] 84 ∧ Below w.heap.size w wr) (fun i _ => mn - (intOf i).toNat)
    case atStart => exact ⟨0, rfl, Nat.zero_le _, hH2, hB2⟩
    case round =>
      obtain ⟨k, rfl, hk, hHr, hBr⟩ := hrel
      have hst := step_any w1.heap.size 0 wr (hHr.cell rfl) (hHr.free 0) (by omega) (by omega)
      rw [show (max (0 - 1) 0 : Int) = 0 from by decide] at hst
      replace hst := Lib.hid hst
      have hs2 := hHr.set 0 (.int .i64 0)
      replace hs2 := Lib.hid hs2
      have hBn := Lib.hid (hBr.setCell (p := ⟨w1.heap.size, 0, none⟩) hsz1 (.int .i64 0))
      by_cases hlt : k < mn
      · go_wp2_with fail
        refine hst.out.mono ?_
        rintro e w' ⟨rfl, rfl⟩
        go_wp2_with fail
        go_roundw
        case rel => first | exact ⟨k + 1, by go_num, by omega, by simpa using hs2.out, hBn.out⟩ | ((repeat apply Exists.intro); exact ⟨⟨k + 1, by go_num, by omega, by simpa using hs2.out, hBn.out⟩, rfl⟩)
        case measure => simp [intOf]; omega
      · have cr := hHr.cell (o := 0) rfl
        go_wp2_with (first | (go_at_call 22; refine (left_any _ 0 _ cr).mono ?_; rintro e w' ⟨rfl, rfl⟩))
        go_ret
        exact ⟨rfl, hBr⟩
  | false =>
    have hle : ¬ (n : Int) ≤ bn := of_decide_eq_false Hc.out
    rw [show (n : Int) - min (n) (bn : Int) = n - bn from by omega] at hH2 c2
    go_wp2_with (first | (go_at_call 22; refine (left_any _ (n - bn) _ c2).mono ?_; rintro e w' ⟨rfl, rfl⟩))
    go_loopw [50] (fun i wr => ∃ (k : Nat) (q : Int), i = .int .i64 k ∧ k ≤ mn ∧ 0 ≤ q ∧ q ≤ 9223372036854775807 ∧ Has wr w1.heap.size [.int .i64 q] 84 ∧ Below w.heap.size w wr) (fun i _ => mn - (intOf i).toNat)
    case atStart => exact ⟨0, n - bn, rfl, Nat.zero_le _, by omega, by omega, hH2, hB2⟩
    case round =>
      obtain ⟨k, q, rfl, hk, hq0, hq1, hHr, hBr⟩ := hrel
      have hst := Lib.hid (step_any w1.heap.size q wr (hHr.cell rfl) (hHr.free 0) (by omega) (by omega))
      have hs2 := hHr.set 0 (.int .i64 (max (q - 1) 0))
      replace hs2 := Lib.hid hs2
      have hBn := Lib.hid (hBr.setCell (p := ⟨w1.heap.size, 0, none⟩) hsz1 (.int .i64 (max (q - 1) 0)))
      by_cases hlt : k < mn
      · go_wp2_with fail
        refine hst.out.mono ?_
        rintro e w' ⟨rfl, rfl⟩
        go_wp2_with fail
        go_roundw
        case rel => first | exact ⟨k + 1, max (q - 1) 0, by go_num, by omega, by omega, by omega, by simpa using hs2.out, hBn.out⟩ | ((repeat apply Exists.intro); exact ⟨⟨k + 1, max (q - 1) 0, by go_num, by omega, by omega, by omega, by simpa using hs2.out, hBn.out⟩, rfl⟩)
        case measure => simp [intOf]; omega
      · have cr := hHr.cell (o := 0) rfl
        by_cases hq : q = 0
        all_goals
          first | (have hqb2 : (q == 0) = true := beq_iff_eq.2 hq) | (have hqb2 : (q == 0) = false := beq_eq_false_iff_ne.2 hq)
          clear hq
          go_wp2_with (first | (go_at_call 22; refine (left_any _ q _ cr).mono ?_; rintro e w' ⟨rfl, rfl⟩))
          go_ret
          exact ⟨rfl, hBr⟩

theorem finishes_walk (a0 : Int) (a1 : Int) (a2 : Int) (w0 : (Lit.int .i64 a0).wf = true) (w1 : (Lit.int .u16 a1).wf = true) (w2 : (Lit.int .u8 a2).wf = true) (w : World) :
    Calls Try.prog 6 #[.int .i64 a0, .int .u16 a1, .int .u8 a2] w fun e w' => e = .returned (.bool true) ∧ Below w.heap.size w w' := by
  have h0 := bounds_i64 w0
  have h1 := bounds_u16 w1
  have h2 := bounds_u8 w2
  obtain ⟨bn, hbn⟩ := Int.eq_ofNat_of_zero_le (Int.emod_nonneg a1 (show (2000 : Int) ≠ 0 by decide))
  obtain ⟨mn, hmn⟩ := Int.eq_ofNat_of_zero_le (Int.emod_nonneg a2 (show (5 : Int) ≠ 0 by decide))
  by_cases h : a0 < 1
  · exact finishes_core_one a0 bn mn w h0 h a1 a2 h1 h2 hbn (by omega) (by omega) _ rfl
  · exact finishes_core_more a0 bn mn w h0 h a1 a2 h1 h2 hbn (by omega) (by omega) _ rfl
end Go.Proofs.Ytdminbjenbbpaaa
