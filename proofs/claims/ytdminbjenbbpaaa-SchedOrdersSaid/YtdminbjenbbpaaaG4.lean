/- choose. -/
import Derived.Test.YtdminbjenbbpaaaG3
namespace Go.Proofs.Ytdminbjenbbpaaa
open Go.RowKit

def ChoosePost (w : World) (n k : Nat) (e : Ending) (w' : World) : Prop :=
  e = .returned (.tuple #[.int .u64 ((chooseV n k).1 : Int), .bool (chooseV n k).2]) ∧ ∃ m, w.drewN m = w'
theorem div_mod64 (P : Nat) : P / 18446744073709551616 * 18446744073709551616 + P % 18446744073709551616 = P := by omega
set_option maxHeartbeats 2000000 in
set_option maxRecDepth 100000 in
theorem choose_any (n k : Nat) (hk : k ≤ n) (hn : n < 4294967296) (w : World) : Calls Try.prog 37 #[.int .u64 (n : Int), .int .u64 (k : Int)] w (ChoosePost w n k) := by
  generalize hpost : ChoosePost w n k = post
  have hno : most < bin n k → ∀ m, post (.returned (.tuple #[.int .u64 0, .bool false])) (w.drewN m) := fun h m => by
    rw [← hpost]; refine ⟨?_, m, rfl⟩
    unfold chooseV; rw [if_neg (by omega)]; rfl
  have hyes : bin n k ≤ most → ∀ m, post (.returned (.tuple #[.int .u64 ((bin n k : Nat) : Int), .bool true])) (w.drewN m) := fun h m => by
    rw [← hpost]; refine ⟨?_, m, rfl⟩
    unfold chooseV; rw [if_pos h]
  have hmono : ∀ i, i ≤ k → bin (n - k + i) i ≤ bin n k := fun i hi => by
    have := bin_monoL (n - k) i k hi
    rw [show n - k + k = n by omega] at this; exact this
  have hstep := bin_step (n - k)
  have hall : bin (n - k + k) k = bin n k := by rw [show n - k + k = n by omega]
  have hsub : IntKind.u64.wrap ((n : Int) - (k : Int)) = ((n - k : Nat) : Int) := by rw [show (n : Int) - (k : Int) = ((n - k : Nat) : Int) by omega]; exact u64w _ (by omega)
  have h0 : bin (n - k + 0) 0 = 1 := bin_zero _
  have hmb : n - k < 4294967296 := by omega
  have hkb : k < 4294967296 := by omega
  generalize n - k = m at *
  generalize bin n k = bnk at *
  replace hno := Lib.hid hno
  replace hyes := Lib.hid hyes
  replace hmono := Lib.hid hmono
  replace hstep := Lib.hid hstep
  replace hall := Lib.hid hall
  replace hmb := Lib.hid hmb
  replace hkb := Lib.hid hkb
  replace h0 := Lib.hid h0
  clear hpost hk hn
  go_enter Try.func37, Try.ntmps37
  go_wp2_with fail
  go_loopw [6, 7] (fun r i wr => ∃ j d : Nat, j ≤ k ∧ r = .int .u64 ((bin (m + j) j : Nat) : Int) ∧ i = .int .u64 ((j + 1 : Nat) : Int) ∧ bin (m + j) j ≤ most ∧ wr = w.drewN d) (fun _ i _ => k + 1 - (intOf i).toNat)
  case atStart => exact ⟨0, 0, Nat.zero_le _, by rw [h0.out]; rfl, rfl, by rw [h0.out]; decide, rfl⟩
  case round =>
    obtain ⟨j, d, hj, rfl, rfl, hle, rfl⟩ := hrel
    by_cases hlt : j < k
    · have hd1 : decide (((j + 1 : Nat) : Int) ≤ (k : Int)) = true := decide_eq_true (by omega)
      have hst := hstep.out j
      have hmo := hmono.out (j + 1) (by omega)
      have hmb' := hmb.out
      have hkb' := hkb.out
      have hadd : IntKind.u64.wrap ((m : Int) + ((j + 1 : Nat) : Int)) = ((m + (j + 1) : Nat) : Int) := by rw [show (m : Int) + ((j + 1 : Nat) : Int) = ((m + (j + 1) : Nat) : Int) by omega]; exact u64w _ (by omega)
      have hmost : most = 4611686018427387904 := rfl
      generalize bin (m + j) j = r at *
      generalize hB : bin (m + (j + 1)) (j + 1) = b at *
      obtain ⟨y, hy⟩ : ∃ y, y = m + (j + 1) := ⟨_, rfl⟩
      rw [← hy] at hst hadd
      obtain ⟨I, hI⟩ : ∃ I, I = j + 1 := ⟨_, rfl⟩
      rw [← hI] at hst hadd hd1
      have hd1N : decide (I ≤ k) = true := decide_eq_true (by omega)
      obtain ⟨P, hP⟩ : ∃ P, P = r * y := ⟨_, rfl⟩
      have hmul : Calls Try.prog 38 #[.int .u64 (r : Int), .int .u64 (y : Int)] (w.drewN d) fun e w' => e = .returned (.tuple #[.int .u64 ((P / 18446744073709551616 : Nat) : Int), .int .u64 ((P % 18446744073709551616 : Nat) : Int)]) ∧ w.drewN d = w' := by
        rw [hP]
        exact (Try.bits_Mul64 r y (by omega) (by omega) _).mono fun e w' ⟨a, b⟩ => ⟨a, b.symm⟩
      rw [← hP] at hst
      have hdm := div_mod64 P
      have hlo : P % 18446744073709551616 < 18446744073709551616 := Nat.mod_lt _ (by omega)
      generalize P / 18446744073709551616 = hi at *
      generalize P % 18446744073709551616 = lo at *
      have hI1 : 0 < I := by omega
      have hinc : IntKind.u64.wrap ((I : Int) + 1) = ((I + 1 : Nat) : Int) := by rw [show (I : Int) + 1 = ((I + 1 : Nat) : Int) by omega]; exact u64w _ (by omega)
      have hbn := hno
      have hIk : I ≤ k := by omega
      have hIe : ((j + 1 : Nat) : Int) = (I : Int) := by omega
      rw [hIe]
      replace hmul := Lib.hid hmul
      by_cases hge : I ≤ hi
      · have hd2 : decide ((I : Int) ≤ (hi : Int)) = true := decide_eq_true (by omega)
        have hd2N : decide (I ≤ hi) = true := decide_eq_true hge
        have hbig : most < bnk := by
          have h1 : 18446744073709551616 ≤ P / I := by
            rw [Nat.le_div_iff_mul_le hI1]
            have := Nat.mul_le_mul_right 18446744073709551616 hge
            rw [Nat.mul_comm I] at this
            omega
          omega
        have hf := Lib.hid (hbn.out hbig d)
        clear hst hmo hle hdm hlo hP hy hI hmost hB hmb' hkb' hj hlt hbig hge hIk hI1 hIe
        go_wp2_with fail
        refine hmul.out.mono ?_
        rintro e w' ⟨rfl, rfl⟩
        go_wp2_with fail
        first | exact hf.out | (go_ret2; exact hf.out)
      · have hd2 : decide ((I : Int) ≤ (hi : Int)) = false := decide_eq_false (by omega)
        have hd2N : decide (I ≤ hi) = false := decide_eq_false hge
        have hdv := div64_small hi lo I hI1 (by omega) hlo (by omega) (w.drewN d)
        rw [hdm, hst] at hdv
        by_cases hgr : most < b
        · have hf := fun d => hbn.out (by omega) d
          have hd3 : decide ((4611686018427387904 : Int) < (b : Int)) = true := decide_eq_true (by omega)
          replace hf := Lib.hid hf
          replace hdv := Lib.hid hdv
          clear hst hmo hle hdm hlo hP hy hI hmost hB hmb' hkb' hj hlt hgr hge hIk hI1 hIe
          go_wp2_with fail
          refine hmul.out.mono ?_
          rintro e w' ⟨rfl, rfl⟩
          go_wp2_with fail
          refine hdv.out.mono ?_
          rintro e w' ⟨rr, rfl, d2, rfl⟩
          go_wp2_with fail
          try rw [World.drewN_drewN]
          first | exact hf.out _ | (go_ret2; exact hf.out _)
        · have hd3 : decide ((4611686018427387904 : Int) < (b : Int)) = false := decide_eq_false (by omega)
          have hrel : ∀ d, ∃ j d' : Nat, j ≤ k ∧ Value.int .u64 (b : Int) = .int .u64 ((bin (m + j) j : Nat) : Int) ∧ Value.int .u64 ((I : Int) + 1) = .int .u64 ((j + 1 : Nat) : Int) ∧ bin (m + j) j ≤ most ∧ w.drewN d = w.drewN d' := fun d =>
            ⟨j + 1, d, by omega, by rw [hB], congrArg _ (by omega), by rw [hB]; omega, rfl⟩
          have hmeas : k + 1 - (I + 1) < k + 1 - I := by omega
          replace hrel := Lib.hid hrel
          replace hdv := Lib.hid hdv
          replace hmeas := Lib.hid hmeas
          clear hst hmo hle hdm hlo hP hy hI hmost hB hmb' hkb' hj hlt hgr hge hIk hI1 hIe
          go_wp2_with fail
          refine hmul.out.mono ?_
          rintro e w' ⟨rfl, rfl⟩
          go_wp2_with fail
          refine hdv.out.mono ?_
          rintro e w' ⟨rr, rfl, d2, rfl⟩
          go_wp2_with fail
          try rw [World.drewN_drewN]
          exact ⟨hrel.out _, by have := hmeas.out; simp [intOf]; omega⟩
    · obtain rfl : j = k := by omega
      have hd1 : decide (((j + 1 : Nat) : Int) ≤ (j : Int)) = false := decide_eq_false (by omega)
      have hd1N : decide (j + 1 ≤ j) = false := decide_eq_false (by omega)
      rw [hall.out] at hle ⊢
      have hf := Lib.hid (hyes.out hle d)
      replace hle := Lib.hid hle
      go_wp2_with fail
      first | exact hf.out | (go_ret2; exact hf.out)
end Go.Proofs.Ytdminbjenbbpaaa
