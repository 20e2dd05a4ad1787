/- CrashsetLong: the walk. -/
import Derived.Test.YtikjpklbbjmioaaK15
namespace Go.Proofs.Ytikjpklbbjmioaa
open Go.RowKit Go.Maps
variable {w : World} {F : Own} {o o' h T : Nat} {R : Dv} {L : Lay}
theorem DSt.choice {wx : World} (hp : DSt w L T R wx) (n : Nat) (hn : n < 18446744073709551616) : Calls Try.prog 17 #[.pointer (some ⟨L.g, 0, none⟩), .int .u64 (n : Int)] wx (ChoicePost wx R n) := by
  obtain ⟨F, h1, _⟩ := hp; exact choice_any h1 n hn
theorem long_count (s : Int) : ∃ S : Nat, wrap64 (240 + (wrap64 (s.tmod 32 + 32)).tmod 32) = (S : Int) ∧ 240 ≤ S ∧ S ≤ 271 := by
  have h1 := Int.tmod_lt_of_pos s (show (0 : Int) < 32 by omega)
  have h2 := Int.lt_tmod_of_pos s (show (0 : Int) < 32 by omega)
  generalize s.tmod 32 = t at *
  have e1 : wrap64 (t + 32) = t + 32 := by unfold wrap64; omega
  rw [e1, Int.tmod_eq_emod_of_nonneg (by omega)]
  generalize hx : (t + 32) % 32 = x
  have : 0 ≤ x ∧ x < 32 := by omega
  have e2 : wrap64 (240 + x) = 240 + x := by unfold wrap64; omega
  exact ⟨(240 + x).toNat, by rw [e2]; omega, by omega, by omega⟩
set_option maxHeartbeats 4000000 in
set_option maxRecDepth 100000 in
theorem long_walk (W : World) (s : Int) (hs : i64B s) (n : Nat) (hn : n < 18446744073709551616) :
    Calls Try.prog 3 #[.int .i64 s, .int .u64 (n : Int)] W fun e w' => e = .returned (.bool true) ∧ Below W.heap.size W w' := by
  have hN : ∀ w : World, Calls Try.prog 14 #[.int .i64 2] w (fun e w' => ∃ L, e = .returned (.tuple #[.pointer (some ⟨L.g, 0, none⟩), .int .i64 0]) ∧ DSt w L 0 (newP 2) w') := fun w =>
    (new_any w noOwn 0 2 (by omega) (by omega)).mono fun e w' ⟨L, F', he, hd, hx, hb⟩ => ⟨L, he, F', hd, fun k hk => by rw [hx k hk]; rfl, hb⟩
  replace hN := Lib.hid hN
  unfold i64B at hs
  go_enter Try.func3, Try.ntmps3
  go_wp2_with fail
  refine (awake5_any _).mono ?_
  rintro e w1 ⟨rfl, b1⟩
  go_wp2_with fail
  refine (hN.out w1).mono ?_
  rintro e w2 ⟨L, rfl, d2⟩
  obtain ⟨S, hS, hS1, hS2⟩ := long_count s
  go_wp2_with fail
  clear hS
  generalize (wrap64 (s.tmod 32 + 32)).tmod 32 = j1
  generalize wrap64 (s.tmod 32 + 32) = j2
  generalize s.tmod 32 = j3
  have cT : ∀ k wx, DSt w1 L (2 * k) (lngR k) wx → Calls Try.prog 15 #[.pointer (some ⟨L.g, 0, none⟩), .int .i64 0] wx (fun e w' => e = .returned (.pointer (some ⟨L.tb 0, 0, none⟩)) ∧ wx = w') := fun k wx hp => hp.quiet fun F hd => thread_in (t := 0) hd (by omega)
  have cS : ∀ k wx, k ≤ 300 → DSt w1 L (2 * k) (lngR k) wx → Calls Try.prog 16 #[.pointer (some ⟨L.tb 0, 0, none⟩), .int .u64 ((8 * (k % 8) : Nat) : Int), .int .u64 (k : Int)] wx (fun e w' => e = .returned (.tuple #[]) ∧ DSt w1 L (2 * (k + 1)) (lngR (k + 1)) w') := fun k wx hk hp => hp.step fun F hd => store_any (t := 0) (off := 8 * (k % 8)) (v := k) hd (by omega) (by omega) (by omega) (by omega)
  have cC : ∀ wx (m : Nat), m < 18446744073709551616 → DSt w1 L (2 * S) (lngR S) wx → Calls Try.prog 17 #[.pointer (some ⟨L.g, 0, none⟩), .int .u64 (m : Int)] wx (ChoicePost wx (lngR S) m) := fun wx m hm hp => hp.choice m hm
  replace cT := Lib.hid cT
  replace cS := Lib.hid cS
  replace cC := Lib.hid cC
  clear hN
  go_loopw [23] (fun iv wr => ∃ k : Nat, k ≤ S ∧ iv = .int .i64 (k : Int) ∧ DSt w1 L (2 * k) (lngR k) wr) (fun iv _ => S - (intOf iv).toNat)
  case atStart => exact ⟨0, Nat.zero_le _, rfl, d2⟩
  case round =>
    obtain ⟨k, hk, rfl, d3⟩ := hrel
    by_cases hkS : k < S
    · have e1 := decide_eq_true (show (k : Int) < (S : Int) by omega)
      have cT2 := Lib.hid (cT.out k wr d3)
      have cS2 := cS.out k wr (by omega) d3
      have e2 : ((8 * (k % 8) : Nat) : Int) = 8 * ((k : Int) % 8) := by omega
      rw [e2] at cS2
      replace cS2 := Lib.hid cS2
      clear d3 e2
      go_wp2_with fail
      refine cT2.out.mono ?_
      rintro e w' ⟨rfl, rfl⟩
      go_wp2_with fail
      refine cS2.out.mono ?_
      rintro e w5 ⟨rfl, d4⟩
      go_wp2_with fail
      exact ⟨⟨k + 1, by omega, by go_num, d4⟩, by simp [intOf]; omega⟩
    · obtain rfl : k = S := by omega
      obtain ⟨m, hm⟩ : ∃ m, m = n % (k + 1) := ⟨_, rfl⟩
      have hmk : m < k + 1 := by rw [hm]; exact Nat.mod_lt _ (by omega)
      have em : (n : Int) % ((k : Int) + 1) = (m : Int) := by rw [hm]; simp
      have q := cC.out wr m (by omega) d3
      unfold ChoicePost at q
      simp only [lng_ok (show 0 < k by omega) hmk, lng_digits (show 0 < k by omega) hmk, lng_fits (show 0 < k by omega), if_true] at q
      simp only [lng_dirty (show 0 < k by omega)] at q
      have kE := fun wx hb => (d3.below (w' := wx) hb).b
      have e0 : (((k : Int) + 1) == 0) = false := beq_eq_false_iff_ne.2 (by omega)
      have e1 : ¬ ((k : Int) + 1 = 0) := by omega
      have e2 : 0 ≤ (n : Int) % ((k : Int) + 1) ∧ (n : Int) % ((k : Int) + 1) ≤ 271 := by rw [em]; omega
      have e3 : decide ((k : Int) < (k : Int)) = false := decide_eq_false (by omega)
      rw [← em] at q
      replace kE := Lib.hid kE
      clear cT cS cC d3
      by_cases h255 : k ≤ 255
      · have e4 : decide (255 < (k : Int)) = false := decide_eq_false (by omega)
        have e5 : (n : Int) % ((k : Int) + 1) ≤ 255 := by rw [em]; omega
        simp only [h255, decide_true, if_true] at q
        replace q := Lib.hid q
        replace em := Lib.hid em
        go_wp2_with fail
        refine q.out.mono ?_
        rintro e w5 ⟨b5, b, rfl, hh, _⟩
        have kF := kE.out _ b5
        have cc := hh.cell (o := 0) (v := .int .u8 (m : Int)) rfl
        rw [← em.out] at cc
        clear q b5 hh kE em e0 e1 e3
        generalize (n : Int) % ((k : Int) + 1) = E at *
        go_wp2_with fail
        go_ret
        exact ⟨rfl, b1.trans (kF.mono b1.size)⟩
      · have e4 : decide (255 < (k : Int)) = true := decide_eq_true (by omega)
        simp only [h255, decide_false, if_false, Bool.false_eq_true] at q
        replace q := Lib.hid q
        replace em := Lib.hid em
        go_wp2_with fail
        refine q.out.mono ?_
        rintro e w5 ⟨b5, rfl⟩
        have kF := kE.out _ b5
        clear q b5 kE em e0 e1 e3
        generalize (n : Int) % ((k : Int) + 1) = E at *
        go_wp2_with fail
        go_ret
        exact ⟨rfl, b1.trans (kF.mono b1.size)⟩
end Go.Proofs.Ytikjpklbbjmioaa
