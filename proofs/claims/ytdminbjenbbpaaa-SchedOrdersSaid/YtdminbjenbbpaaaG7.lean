/- The reference's Count. -/
import Derived.Test.YtdminbjenbbpaaaG5
namespace Go.Proofs.Ytdminbjenbbpaaa
open Go.RowKit

/-! ### plain -/
theorem bin_le : ∀ n k, bin (n + 1) k ≤ 2 ^ n
  | 0, 0 => by decide
  | 0, k + 1 => by
    rw [bin_succ]
    cases k with
    | zero => rw [bin_zero, bin_over 0 1 (by omega)]; decide
    | succ k => rw [bin_over 0 (k + 1) (by omega), bin_over 0 (k + 1 + 1) (by omega)]; decide
  | n + 1, 0 => by rw [bin_zero]; exact Nat.one_le_two_pow
  | n + 1, k + 1 => by
    have h1 := bin_le n k
    have h2 := bin_le n (k + 1)
    rw [bin_succ, Nat.pow_succ]; omega
theorem cnt_step (C t i : Nat) : C * bin (t + i) i * (t + (i + 1)) / (i + 1) = C * bin (t + (i + 1)) (i + 1) := by
  have h := bin_absorb (t + i) i
  rw [show t + (i + 1) = t + i + 1 by omega, Nat.mul_assoc, Nat.mul_comm (bin (t + i) i), ← h, ← Nat.mul_assoc, Nat.mul_comm C, Nat.mul_assoc, Nat.mul_div_cancel_left _ (by omega)]
/-- Total and product, as the reference reckons them. -/
def refS (st : Nat × Nat) (s : Nat) : Nat × Nat := (st.1 + s, st.2 * bin (st.1 + s) s)
def refP (l : List Nat) : Nat := (l.foldl refS (0, 1)).2
theorem ref_take (l : List Nat) (k : Nat) (h : k < l.length) : (l.take (k + 1)).foldl refS (0, 1) = refS ((l.take k).foldl refS (0, 1)) (l.getD k 0) := by
  rw [List.take_add_one, List.getElem?_eq_getElem h]
  simp only [Option.toList, List.foldl_append, List.foldl_cons, List.foldl_nil]
  rw [List.getD_eq_getElem?_getD, List.getElem?_eq_getElem h, Option.getD_some]
def expo : Nat → Nat
  | 0 => 0
  | k + 1 => expo k + (6 * k + 5)
theorem expo_four : ∀ k, k ≤ 4 → expo k ≤ 56
  | 0, _ | 1, _ | 2, _ | 3, _ | 4, _ => by decide
  | k + 5, h => absurd h (by omega)
theorem bin_six (t k i : Nat) (ht : t ≤ 6 * k) (hi : i ≤ 6) : bin (t + i) i ≤ 2 ^ (6 * k + 5) := by
  cases hn : t + i with
  | zero => obtain rfl : i = 0 := by omega
            rw [bin_zero]; exact Nat.one_le_two_pow
  | succ n => exact Nat.le_trans (bin_le n i) (Nat.pow_le_pow_right (by omega) (by omega))
/-- With sizes of at most 6: the total, and a bound of the product. -/
theorem ref_bound (l : List Nat) (hs : ∀ s ∈ l, s ≤ 6) : ∀ k, k ≤ l.length → ((l.take k).foldl refS (0, 1)).1 ≤ 6 * k ∧ ((l.take k).foldl refS (0, 1)).2 ≤ 2 ^ expo k
  | 0, _ => by rw [List.take_zero]; decide
  | k + 1, h => by
    obtain ⟨a, b⟩ := ref_bound l hs k (by omega)
    have hsk : l.getD k 0 ≤ 6 := hs _ (by rw [List.getD_eq_getElem?_getD, List.getElem?_eq_getElem (by omega)]; exact List.getElem_mem (by omega))
    rw [ref_take l k (by omega)]
    generalize (l.take k).foldl refS (0, 1) = st at *
    generalize l.getD k 0 = s at *
    have hb := bin_six st.1 k s a hsk
    refine ⟨by show st.1 + s ≤ _; omega, ?_⟩
    show st.2 * bin (st.1 + s) s ≤ 2 ^ (expo k + (6 * k + 5))
    rw [Nat.pow_add]; exact Nat.mul_le_mul b hb
theorem ref_small (C t k i : Nat) (hk : k < 4) (ht : t ≤ 6 * k) (hi : i ≤ 6) (hC : C ≤ 2 ^ expo k) : C * bin (t + i) i ≤ 72057594037927936 := by
  have h1 := Nat.mul_le_mul hC (bin_six t k i ht hi)
  rw [← Nat.pow_add] at h1
  have h2 := expo_four (k + 1) (by omega)
  have h3 : 2 ^ (expo k + (6 * k + 5)) ≤ 2 ^ 56 := Nat.pow_le_pow_right (by omega) h2
  omega
set_option maxHeartbeats 2000000 in
set_option maxRecDepth 100000 in
theorem refcount_any (l : List Nat) (v : Value) (w : World) (hv : Rd w v l.length (l.map fun (n : Nat) => Value.int .i64 (n : Int))) (hl : l.length ≤ 4) (hs : ∀ s ∈ l, s ≤ 6) :
    Calls Try.prog 32 #[v] w fun e w' => e = .returned (.int .u64 ((refP l : Nat) : Int)) ∧ w = w' := by
  have hbd := ref_bound l hs
  have hend : (l.take l.length).foldl refS (0, 1) = l.foldl refS (0, 1) := by rw [List.take_length]
  obtain ⟨va, vc, rfl, hrd⟩ := hv
  have hv : Rd w (.slice va l.length vc) l.length (l.map fun (n : Nat) => Value.int .i64 (n : Int)) := ⟨va, vc, rfl, hrd⟩
  replace hbd := Lib.hid hbd
  replace hend := Lib.hid hend
  replace hs := Lib.hid hs
  replace hv := Lib.hid hv
  replace hl := Lib.hid hl
  clear hrd
  go_enter Try.func32, Try.ntmps32
  go_wp2_with fail
  go_loopw [5, 3, 4] (fun mv nv cv wr => ∃ k t c : Nat, k ≤ l.length ∧ mv = .int .i64 (k : Int) ∧ nv = .int .u64 (t : Int) ∧ cv = .int .u64 (c : Int) ∧ (l.take k).foldl refS (0, 1) = (t, c) ∧ wr = w) (fun mv _ _ _ => l.length - (intOf mv).toNat)
  case atStart => exact ⟨0, 0, 1, Nat.zero_le _, rfl, rfl, rfl, by rw [List.take_zero]; rfl, rfl⟩
  case round =>
    obtain ⟨k, t, C, hk, rfl, rfl, rfl, hst, rfl⟩ := hrel
    by_cases hlt : k < l.length
    · have hkI : (k : Int) < (l.length : Int) := by omega
      have hkN : decide (k < l.length) = true := decide_eq_true hlt
      have hk0 : (0 : Int) ≤ (k : Int) := by omega
      have hl4 := hl.out
      have hkb : (k : Int) + 1 < 100 := by omega
      obtain ⟨bl, ol, cl, ea, fa⟩ := hv.out.cells (by omega)
      simp only [Value.slice.injEq, true_and] at ea
      obtain ⟨rfl, ea2⟩ := ea
      replace ea2 := Lib.hid ea2
      have ck : wr.cell? ⟨bl, ol + k, none⟩ = some (.int .i64 ((l.getD k 0 : Nat) : Int)) := fa _ _ (by rw [List.getElem?_map, List.getElem?_eq_getElem hlt, List.getD_eq_getElem?_getD, List.getElem?_eq_getElem hlt]; rfl)
      have hsk : l.getD k 0 ≤ 6 := hs.out _ (by rw [List.getD_eq_getElem?_getD, List.getElem?_eq_getElem hlt]; exact List.getElem_mem hlt)
      have htk := ref_take l k hlt
      obtain ⟨hb1, hb2⟩ := hbd.out k hk
      rw [hst] at hb1 hb2 htk
      simp only at hb1 hb2
      generalize l.getD k 0 = s at *
      replace hlt := Lib.hid hlt
      replace htk := Lib.hid htk
      replace hst := Lib.hid hst
      go_wp2_with fail
      go_loopw [6, 3, 4] (fun kv nv cv wr' => ∃ j n P : Nat, j ≤ s ∧ kv = .int .i64 ((j + 1 : Nat) : Int) ∧ nv = .int .u64 (n : Int) ∧ cv = .int .u64 (P : Int) ∧ n = t + j ∧ P = C * bin (t + j) j ∧ wr' = wr) (fun kv _ _ _ => s + 1 - (intOf kv).toNat)
      case atStart => exact ⟨0, t, C, Nat.zero_le _, rfl, rfl, rfl, rfl, by rw [bin_zero, Nat.mul_one], rfl⟩
      case round =>
        obtain ⟨j, n, P, hj, rfl, rfl, rfl, hn, hP, rfl⟩ := hrel
        obtain ⟨j1, hj1⟩ : ∃ j1, j1 = j + 1 := ⟨_, rfl⟩
        rw [← hj1]
        by_cases hjs : j < s
        · have hdI : decide ((j1 : Int) ≤ (s : Int)) = true := decide_eq_true (by omega)
          have hdN : decide (j1 ≤ s) = true := decide_eq_true (by omega)
          have hb56 := ref_small C t k j (by omega) hb1 (by omega) hb2
          have hstp := cnt_step C t j
          have g1 : IntKind.u64.wrap ((C : Int) * (bin (t + j) j : Int) * ((t : Int) + (j : Int) + 1)) = ((C * bin (t + j) j * (t + (j + 1)) : Nat) : Int) := by
            rw [show (C : Int) * (bin (t + j) j : Int) * ((t : Int) + (j : Int) + 1) = ((C * bin (t + j) j * (t + (j + 1)) : Nat) : Int) by rw [Int.natCast_mul, Int.natCast_mul, show ((t + (j + 1) : Nat) : Int) = (t : Int) + (j : Int) + 1 by omega]]
            apply u64w
            have h1 := Nat.mul_le_mul hb56 (show t + (j + 1) ≤ 25 by omega)
            omega
          have g2 : IntKind.u64.wrap ((((C * bin (t + j) j * (t + (j + 1)) : Nat) : Int)).tdiv ((j : Int) + 1)) = ((C * bin (t + (j + 1)) (j + 1) : Nat) : Int) := by
            rw [show (j : Int) + 1 = ((j + 1 : Nat) : Int) from rfl, ← Int.ofNat_tdiv, hstp]
            apply u64w
            have h1 := ref_small C t k (j + 1) (by omega) hb1 (by omega) hb2
            omega
          replace g1 := Lib.hid g1
          replace g2 := Lib.hid g2
          replace hstp := Lib.hid hstp
          replace hb56 := Lib.hid hb56
          go_wp2_with fail
          refine ⟨⟨j + 1, t + (j + 1), C * bin (t + (j + 1)) (j + 1), hjs, rfl, ?_, ?_, rfl, rfl, trivial⟩, ?_⟩
          · congr 1
          · rw [g1.out, g2.out]
          · simp [intOf]; omega
        · obtain rfl : j = s := by omega
          have hdI : decide ((j1 : Int) ≤ (j : Int)) = false := decide_eq_false (by omega)
          have hdN : decide (j1 ≤ j) = false := decide_eq_false (by omega)
          replace hP := Lib.hid hP
          replace hn := Lib.hid hn
          replace hlt := Lib.hid hlt
          go_wp2_with fail
          refine ⟨⟨k + 1, n, P, hlt.out.out, rfl, rfl, rfl, ?_, trivial⟩, ?_⟩
          · rw [htk.out, hn.out, hP.out]; rfl
          · have := hlt.out.out
            simp [intOf]; omega
    · obtain rfl : k = l.length := by omega
      have hrf : C = refP l := by unfold refP; rw [← hend.out, hst]
      have hkN : decide (l.length < l.length) = false := decide_eq_false (by omega)
      replace hrf := Lib.hid hrf
      replace hst := Lib.hid hst
      go_wp2_with fail
      rw [hrf.out]
      first | exact ⟨rfl, rfl⟩ | (go_ret; exact ⟨rfl, rfl⟩)
end Go.Proofs.Ytdminbjenbbpaaa
