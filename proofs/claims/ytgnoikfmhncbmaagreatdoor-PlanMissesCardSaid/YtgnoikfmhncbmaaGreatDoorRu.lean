/- The walk of the reference's utf8. -/
import Derived.Test.YtgnoikfmhncbmaaGreatDoorRows
import Derived.Test.YtgnoikfmhncbmaaGreatDoorVal
import Derived.BigRegion
import Derived.BigQuiet
import Derived.Deep.QuietTactic
import Derived.Deep.DeepCutAuto
import Derived.Deep.CutBlock
set_option linter.unusedVariables false
set_option linter.unusedSimpArgs false
namespace Go.Proofs.YtgnoikfmhncbmaaGreatDoor
open Go.RowKit Go.Lib

def acc (v0 : Int) (bt : Nat → Nat) : Nat → Int
  | 0 => v0
  | 1 => v0
  | k + 2 => acc v0 bt (k + 1) * 64 + (bt (k + 1) : Int) - 128
def SwOk (b0 n : Nat) (low v0 : Int) : Prop :=
  (b0 < 128 ∧ n = 1 ∧ low = 0 ∧ v0 = b0) ∨ (192 ≤ b0 ∧ b0 < 224 ∧ n = 2 ∧ low = 128 ∧ v0 = (b0 : Int) - 192) ∨
  (224 ≤ b0 ∧ b0 < 240 ∧ n = 3 ∧ low = 2048 ∧ v0 = (b0 : Int) - 224) ∨ (240 ≤ b0 ∧ b0 < 248 ∧ n = 4 ∧ low = 65536 ∧ v0 = (b0 : Int) - 240)
def GoodV (low v : Int) : Prop := low ≤ v ∧ v ≤ 1114111 ∧ ¬ (55296 ≤ v ∧ v < 57344)
theorem SwOk.n {b0 n : Nat} {low v0 : Int} (h : SwOk b0 n low v0) : 1 ≤ n ∧ n ≤ 4 ∧ 0 ≤ v0 ∧ v0 < 128 ∧ (1 < n → v0 < 64) ∧ 0 ≤ low ∧ low ≤ 65536 := by unfold SwOk at h; omega
theorem sw_short {b0 n len b1 b2 b3 : Nat} {low v0 : Int} (h : SwOk b0 n low v0) (hl : len < n) (h1 : 1 ≤ len) : stepR len b0 b1 b2 b3 = none := by
  rcases h with ⟨h, rfl, _⟩ | ⟨h, h', rfl, _⟩ | ⟨h, h', rfl, _⟩ | ⟨h, h', rfl, _⟩
  all_goals
    unfold stepR
    (repeat' split) <;> first | rfl | (exfalso; omega)
theorem sw_cont {b0 n len j : Nat} {bt : Nat → Nat} {low v0 : Int} (h : SwOk b0 n low v0) (h1 : 1 ≤ j) (h2 : j < n) (h3 : ¬ (128 ≤ bt j ∧ bt j < 192)) : stepR len b0 (bt 1) (bt 2) (bt 3) = none := by
  have hj : j = 1 ∨ j = 2 ∨ j = 3 := by have := h.n; omega
  rcases h with ⟨h, rfl, _⟩ | ⟨h, h', rfl, _⟩ | ⟨h, h', rfl, _⟩ | ⟨h, h', rfl, _⟩
  all_goals
    unfold stepR
    rcases hj with rfl | rfl | rfl <;> (repeat' split) <;> first | rfl | (exfalso; omega)
theorem sw_bad {b0 n len : Nat} {bt : Nat → Nat} {low v0 : Int} (h : SwOk b0 n low v0) (h2 : ∀ j, 1 ≤ j → j < n → (128 ≤ bt j ∧ bt j < 192)) (h3 : ¬ GoodV low (acc v0 bt n)) : stepR len b0 (bt 1) (bt 2) (bt 3) = none := by
  unfold GoodV at h3
  rcases h with ⟨h, rfl, rfl, rfl⟩ | ⟨h, h', rfl, rfl, rfl⟩ | ⟨h, h', rfl, rfl, rfl⟩ | ⟨h, h', rfl, rfl, rfl⟩
  · exfalso; simp only [acc, Nat.zero_add, Nat.reduceAdd] at h3; omega
  · have a1 := h2 1 (by omega) (by omega)
    simp only [acc, Nat.zero_add, Nat.reduceAdd] at h3
    unfold stepR
    (repeat' split) <;> first | rfl | (exfalso; omega)
  · have a1 := h2 1 (by omega) (by omega)
    have a2 := h2 2 (by omega) (by omega)
    simp only [acc, Nat.zero_add, Nat.reduceAdd] at h3
    unfold stepR
    (repeat' split) <;> first | rfl | (exfalso; omega)
  · have a1 := h2 1 (by omega) (by omega)
    have a2 := h2 2 (by omega) (by omega)
    have a3 := h2 3 (by omega) (by omega)
    simp only [acc, Nat.zero_add, Nat.reduceAdd] at h3
    unfold stepR
    (repeat' split) <;> first | rfl | (exfalso; omega)
theorem sw_good {b0 n len : Nat} {bt : Nat → Nat} {low v0 : Int} (h : SwOk b0 n low v0) (hl : n ≤ len) (h2 : ∀ j, 1 ≤ j → j < n → (128 ≤ bt j ∧ bt j < 192)) (h3 : GoodV low (acc v0 bt n)) : stepR len b0 (bt 1) (bt 2) (bt 3) = some n := by
  unfold GoodV at h3
  rcases h with ⟨h, rfl, rfl, rfl⟩ | ⟨h, h', rfl, rfl, rfl⟩ | ⟨h, h', rfl, rfl, rfl⟩ | ⟨h, h', rfl, rfl, rfl⟩
  · unfold stepR; rw [if_pos h]
  · have a1 := h2 1 (by omega) (by omega)
    simp only [acc, Nat.zero_add, Nat.reduceAdd] at h3
    unfold stepR
    (repeat' split) <;> first | rfl | (exfalso; omega)
  · have a1 := h2 1 (by omega) (by omega)
    have a2 := h2 2 (by omega) (by omega)
    simp only [acc, Nat.zero_add, Nat.reduceAdd] at h3
    unfold stepR
    (repeat' split) <;> first | rfl | (exfalso; omega)
  · have a1 := h2 1 (by omega) (by omega)
    have a2 := h2 2 (by omega) (by omega)
    have a3 := h2 3 (by omega) (by omega)
    simp only [acc, Nat.zero_add, Nat.reduceAdd] at h3
    unfold stepR
    (repeat' split) <;> first | rfl | (exfalso; omega)
theorem sw_none {b0 len b1 b2 b3 : Nat} (h1 : ¬ b0 < 128) (h2 : ¬ (192 ≤ b0 ∧ b0 < 224)) (h3 : ¬ (224 ≤ b0 ∧ b0 < 240)) (h4 : ¬ (240 ≤ b0 ∧ b0 < 248)) : stepR len b0 b1 b2 b3 = none := by
  unfold stepR
  rw [if_neg h1, if_neg h2, if_neg h3, if_neg h4]
/-- A byte of a string, as a number. -/
def btS (s : ByteArray) (i : Nat) : Nat := (s.data.toList.getD i 0).toNat
theorem btS_get (s : ByteArray) (i : Nat) (h : i < s.size) : (s[i]'h).toNat = btS s i := by
  unfold btS
  have : i < s.data.toList.length := by simpa using h
  rw [List.getD, List.getElem?_eq_getElem this]
  rfl
theorem btS_lt (s : ByteArray) (i : Nat) : btS s i < 256 := UInt8.toNat_lt _
theorem list_ne {s : ByteArray} (h : 0 < s.size) : s.data.toList ≠ [] := by
  intro e
  have h2 : s.data.toList.length = s.size := by simp
  rw [e, List.length_nil] at h2
  omega
theorem valid_none {s : ByteArray} (h : 0 < s.size) (hs : stepR s.size (btS s 0) (btS s 1) (btS s 2) (btS s 3) = none) : validD s.data.toList = false := by
  rw [validD_stepR _ (list_ne h)]
  have : s.data.toList.length = s.size := by simp
  rw [this]
  unfold btS at hs
  rw [hs]
theorem valid_some {s : ByteArray} {n : Nat} (h : 0 < s.size) (hs : stepR s.size (btS s 0) (btS s 1) (btS s 2) (btS s 3) = some n) : validD s.data.toList = validD (s.extract n s.size).data.toList := by
  rw [validD_stepR _ (list_ne h)]
  have : s.data.toList.length = s.size := by simp
  rw [this]
  unfold btS at hs
  rw [hs]
  simp only
  rw [extract_data, List.take_of_length_le (by simp)]
theorem acc_step (v0 : Int) (bt : Nat → Nat) (k : Nat) (h : 1 ≤ k) : acc v0 bt (k + 1) = acc v0 bt k * 64 + (bt k : Int) - 128 := by
  match k, h with
  | k + 1, _ => rfl
theorem acc_bd {v0 : Int} {bt : Nat → Nat} (h0 : 0 ≤ v0) (h1 : v0 < 128) : ∀ k : Nat, k ≤ 4 → (∀ j, 1 ≤ j → j < k → (128 ≤ bt j ∧ bt j < 192)) → 0 ≤ acc v0 bt k ∧ acc v0 bt k < 128 * 64 ^ (k - 1)
  | 0, _, _ => by simp [acc]; omega
  | 1, _, _ => by simp [acc]; omega
  | k + 2, hk, h => by
    have ih := acc_bd h0 h1 (k + 1) (by omega) (fun j a b => h j a (by omega))
    have hb := h (k + 1) (by omega) (by omega)
    have e : acc v0 bt (k + 2) = acc v0 bt (k + 1) * 64 + (bt (k + 1) : Int) - 128 := rfl
    have e2 : (128 : Int) * 64 ^ (k + 2 - 1) = 64 * (128 * 64 ^ (k + 1 - 1)) := by
      have : k + 2 - 1 = (k + 1 - 1) + 1 := by omega
      rw [this, Int.pow_succ]
      generalize (64 : Int) ^ (k + 1 - 1) = x
      omega
    rw [e, e2]
    generalize (128 : Int) * 64 ^ (k + 1 - 1) = x at *
    omega
theorem acc_small {v0 : Int} {bt : Nat → Nat} (h0 : 0 ≤ v0) (h1 : v0 < 128) (k : Nat) (hk : k ≤ 4) (h : ∀ j, 1 ≤ j → j < k → (128 ≤ bt j ∧ bt j < 192)) : 0 ≤ acc v0 bt k ∧ acc v0 bt k < 33554432 := by
  have := acc_bd h0 h1 k hk h
  have e : (128 : Int) * 64 ^ (k - 1) ≤ 33554432 := by
    obtain h | h | h | h : k - 1 = 0 ∨ k - 1 = 1 ∨ k - 1 = 2 ∨ k - 1 = 3 := by omega
    all_goals (rw [h]; decide)
  omega

set_option maxHeartbeats 4000000 in
set_option maxRecDepth 100000 in
theorem utf8_any (S : ByteArray) (hS : S.size ≤ 9223372036854775807) (w : World) :
    Calls Tryz.prog 92 #[.string S] w fun e w' => e = .returned (.bool (validD S.data.toList)) ∧ w = w' := by
  obtain ⟨vd, hvd⟩ : ∃ v, v = validD S.data.toList := ⟨_, rfl⟩
  rw [← hvd]
  go_enter Tryz.func92, Tryz.ntmps92
  go_wp2_with fail
  go_loop [0] (fun t => ∃ s : ByteArray, t = .string s ∧ s.size ≤ S.size ∧ vd = validD s.data.toList) (fun t => match t with | .string s => s.size | _ => 0)
  case atStart => exact ⟨S, rfl, Nat.le_refl _, hvd⟩
  case round =>
    obtain ⟨s, rfl, hs, hv⟩ := hrel
    replace hvd := Lib.hid hvd
    by_cases h0 : s.size = 0
    · have hemp : s.data.toList = [] := by
        apply List.eq_nil_of_length_eq_zero
        simpa using h0
      rw [hemp] at hv
      have hv2 : vd = true := by rw [hv]; unfold validD; rfl
      subst hv2
      have hz : ¬ (s.size : Int) > 0 := by omega
      have hz2 : ¬ 0 < s.size := by omega
      clear hv hemp h0
      go_wp2_with fail
      go_ret
      exact ⟨rfl, rfl⟩
    · have hpos : 0 < s.size := by omega
      have hposI : (s.size : Int) > 0 := by omega
      have hs1 : (s.size : Int) ≤ 9223372036854775807 := by omega
      obtain ⟨b0, hb0e⟩ : ∃ b, btS s 0 = b := ⟨_, rfl⟩
      have hb0 : ∀ h : 0 < s.size, (s[0]'h).toNat = b0 := fun h => (btS_get s 0 h).trans hb0e
      have hb256 : b0 < 256 := by rw [← hb0e]; exact btS_lt s 0
      have hvn := valid_none hpos
      have hvs := fun n => valid_some (n := n) hpos
      rw [← hv, hb0e] at hvn hvs
      replace hv := Lib.hid hv
      replace hb0e := Lib.hid hb0e
      replace hvn := Lib.hid hvn
      replace hvs := Lib.hid hvs
      go_upto_block 2 with fail
      go_cut [4, 5, 6] (fun p4 p5 p6 wx => w = wx ∧ ∃ (n : Nat) (low v0 : Int), p4 = .int .i64 n ∧ p5 = .int .i64 low ∧ p6 = .int .i64 v0 ∧ SwOk b0 n low v0)
      case first =>
        by_cases hA : b0 < 128
        · have hAI : (b0 : Int) < 128 := by omega
          go_wp2_with fail
          go_meet
          exact ⟨rfl, 1, 0, b0, rfl, rfl, rfl, .inl ⟨hA, rfl, rfl, rfl⟩⟩
        · have hAI : ¬ (b0 : Int) < 128 := by omega
          by_cases hB : b0 < 192
          · have hBI : ¬ (b0 : Int) ≥ 192 := by omega
            have hCI : ¬ (b0 : Int) ≥ 224 := by omega
            have hDI : ¬ (b0 : Int) ≥ 240 := by omega
            have hf : false = vd := (hvn.out (sw_none hA (by omega) (by omega) (by omega))).symm
            replace hf := Lib.hid hf
            go_wp2_with fail
            go_ret
            exact ⟨ret1_eq (congrArg Value.bool hf.out), rfl⟩
          · have hBI : (b0 : Int) ≥ 192 := by omega
            by_cases hC : b0 < 224
            · have hCI : (b0 : Int) < 224 := by omega
              go_wp2_with fail
              go_meet
              exact ⟨rfl, 2, 128, (b0 : Int) - 192, rfl, rfl, rfl, .inr (.inl ⟨by omega, hC, rfl, rfl, rfl⟩)⟩
            · have hCI : ¬ (b0 : Int) < 224 := by omega
              have hCJ : (b0 : Int) ≥ 224 := by omega
              by_cases hD : b0 < 240
              · have hDI : (b0 : Int) < 240 := by omega
                go_wp2_with fail
                go_meet
                exact ⟨rfl, 3, 2048, (b0 : Int) - 224, rfl, rfl, rfl, .inr (.inr (.inl ⟨by omega, hD, rfl, rfl, rfl⟩))⟩
              · have hDI : ¬ (b0 : Int) < 240 := by omega
                have hDJ : (b0 : Int) ≥ 240 := by omega
                by_cases hE : b0 < 248
                · have hEI : (b0 : Int) < 248 := by omega
                  go_wp2_with fail
                  go_meet
                  exact ⟨rfl, 4, 65536, (b0 : Int) - 240, rfl, rfl, rfl, .inr (.inr (.inr ⟨by omega, hE, rfl, rfl, rfl⟩))⟩
                · have hEI : ¬ (b0 : Int) < 248 := by omega
                  have hf : false = vd := (hvn.out (sw_none hA (by omega) (by omega) (by omega))).symm
                  replace hf := Lib.hid hf
                  go_wp2_with fail
                  go_ret
                  exact ⟨ret1_eq (congrArg Value.bool hf.out), rfl⟩
      case rest =>
        obtain ⟨rfl, n, low, v0, rfl, rfl, rfl, hsw⟩ := hcut
        obtain ⟨n1, n4, v1, v2, v3, l1, l2⟩ := hsw.n
        clear hb0
        by_cases hlen : s.size < n
        · have hlI : (s.size : Int) < n := by omega
          have hf : false = vd := (hvn.out (sw_short hsw hlen hpos)).symm
          replace hf := Lib.hid hf
          go_wp2_with fail
          go_ret
          exact ⟨ret1_eq (congrArg Value.bool hf.out), rfl⟩
        · have hlI : ¬ (s.size : Int) < n := by omega
          go_wp2_with fail
          go_loop [6, 7] (fun v i => ∃ k : Nat, 1 ≤ k ∧ k ≤ n ∧ i = .int .i64 k ∧ v = .int .i64 (acc v0 (btS s) k) ∧ ∀ j, 1 ≤ j → j < k → (128 ≤ btS s j ∧ btS s j < 192)) (fun _ i => n - (intOf i).toNat)
          case atStart => exact ⟨1, by omega, n1, rfl, rfl, fun j a b => by omega⟩
          case round =>
            obtain ⟨k, k1, k2, rfl, rfl, hc⟩ := hrel
            have hbd := acc_small v1 v2 k (by omega) hc
            by_cases hkn : k < n
            · have hkI : (k : Int) < n := by omega
              have hkS : k < s.size := by omega
              have hst := acc_step v0 (btS s) k k1
              obtain ⟨x, hx⟩ : ∃ b, btS s k = b := ⟨_, rfl⟩
              have hxk : ∀ h : k < s.size, (s[k]'h).toNat = x := fun h => (btS_get s k h).trans hx
              have hx256 : x < 256 := by rw [← hx]; exact btS_lt s k
              have hbad := fun h => hvn.out (sw_cont (len := s.size) hsw k1 hkn h)
              have hc2 : (128 ≤ x ∧ x < 192) → ∀ j, 1 ≤ j → j < k + 1 → (128 ≤ btS s j ∧ btS s j < 192) := by
                intro hx2 j a b
                by_cases e : j = k
                · subst e; rw [hx]; exact hx2
                · exact hc j a (by omega)
              rw [hx] at hst hbad
              replace hx := Lib.hid hx
              replace hst := Lib.hid hst
              replace hbad := Lib.hid hbad
              replace hc := Lib.hid hc
              replace hc2 := Lib.hid hc2
              generalize acc v0 (btS s) k = ac at *
              have w1 : 0 ≤ ac * 64 := by omega
              by_cases hA : x < 128
              · have hAI : (x : Int) < 128 := by omega
                have hf : false = vd := (hbad.out (by omega)).symm
                replace hf := Lib.hid hf
                go_wp2_with fail
                go_ret
                exact ⟨ret1_eq (congrArg Value.bool hf.out), rfl⟩
              · have hAI : ¬ (x : Int) < 128 := by omega
                by_cases hB : 192 ≤ x
                · have hBI : (x : Int) ≥ 192 := by omega
                  have hf : false = vd := (hbad.out (by omega)).symm
                  replace hf := Lib.hid hf
                  go_wp2_with fail
                  go_ret
                  exact ⟨ret1_eq (congrArg Value.bool hf.out), rfl⟩
                · have hBI : ¬ (x : Int) ≥ 192 := by omega
                  go_wp2_with fail
                  go_round
                  case rel => exact ⟨k + 1, by omega, by omega, by go_num, by rw [hst.out], hc2.out ⟨by omega, by omega⟩⟩
                  case measure => simp [intOf]; omega
            · have hkI : ¬ (k : Int) < n := by omega
              have hke : k = n := by omega
              subst hke
              by_cases hg : GoodV low (acc v0 (btS s) k)
              · have hst := hvs.out k (sw_good hsw (by omega) hc hg)
                obtain ⟨g1, g2, g3⟩ := hg
                replace hst := Lib.hid hst
                replace hc := Lib.hid hc
                generalize acc v0 (btS s) k = ac at *
                have q1 : ¬ ac < low := by omega
                have q2 : ¬ ac > 1114111 := by omega
                have hke : (k : Int) ≤ s.size := by omega
                have hez : (s.extract k s.size).size = s.size - k := by rw [ByteArray.size_extract]; omega
                replace hez := Lib.hid hez
                by_cases q3 : ac ≥ 55296
                · have q4 : ¬ ac < 57344 := by omega
                  go_wp2_with fail
                  go_round
                  case rel => exact ⟨_, rfl, by rw [hez.out]; omega, hst.out⟩
                  case measure => simp only [hez.out]; omega
                · go_wp2_with fail
                  go_round
                  case rel => exact ⟨_, rfl, by rw [hez.out]; omega, hst.out⟩
                  case measure => simp only [hez.out]; omega
              · have hf : false = vd := (hvn.out (sw_bad hsw hc hg)).symm
                unfold GoodV at hg
                replace hf := Lib.hid hf
                replace hc := Lib.hid hc
                generalize acc v0 (btS s) k = ac at *
                by_cases q1 : ac < low
                · go_wp2_with fail
                  go_ret
                  exact ⟨ret1_eq (congrArg Value.bool hf.out), rfl⟩
                · by_cases q2 : ac > 1114111
                  · go_wp2_with fail
                    go_ret
                    exact ⟨ret1_eq (congrArg Value.bool hf.out), rfl⟩
                  · have q3 : ac ≥ 55296 := by omega
                    have q4 : ac < 57344 := by omega
                    clear hg
                    go_wp2_with fail
                    go_ret
                    exact ⟨ret1_eq (congrArg Value.bool hf.out), rfl⟩
end Go.Proofs.YtgnoikfmhncbmaaGreatDoor
