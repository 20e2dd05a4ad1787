/- Literal after Text, plain. No program in sight. -/
import Derived.Test.YtpjbcadelmjmfaaGreatDoorNum
namespace Go.Proofs.YtpjbcadelmjmfaaGreatDoor
open Go.Lib
set_option linter.unusedVariables false

theorem lit_empty : litP [] = (badV, 11) := by
  unfold litP
  rw [if_neg (by decide), if_neg (by decide), if_neg (by decide)]
  unfold numP
  simp [trimPrefix, hasPrefix]
theorem num_of {s d : List UInt8} {n : Int} (hd : trimPrefix s [45] = d) (h1 : allDig d = true) (h2 : d ≠ []) (h3 : ¬ (d.getD 0 0 = 48 ∧ s ≠ [48])) (hp : parseIntB 32 s = .ok n) : numP s = (⟨1, false, n, ByteArray.empty, false⟩, 0) := by
  unfold numP
  rw [hd]
  simp only
  rw [if_neg (by rw [h1]; simp; exact ⟨h2, fun a => Classical.byContradiction fun b => h3 ⟨by simpa [List.getD] using a, b⟩⟩), hp]
theorem not_words {c : UInt8} {r : List UInt8} (h : c = 45 ∨ (48 ≤ c.toNat ∧ c.toNat ≤ 57)) : litP (c :: r) = numP (c :: r) := by
  have hc : c.toNat ≠ 110 ∧ c.toNat ≠ 116 ∧ c.toNat ≠ 102 ∧ c.toNat ≠ 39 := by
    rcases h with rfl | h
    · decide
    · omega
  unfold litP
  rw [if_neg (by intro e; unfold nullL at e; injection e with e _; rw [e] at hc; exact hc.1 rfl),
    if_neg (by
      rintro (e | e)
      · unfold trueL at e; injection e with e _; rw [e] at hc; exact hc.2.1 rfl
      · unfold falseL at e; injection e with e _; rw [e] at hc; exact hc.2.2.1 rfl),
    if_neg (by
      unfold isQ
      have : ((c :: r).getD 0 0 == 39) = false := by
        simp only [List.getD_cons_zero, beq_eq_false_iff_ne]
        rintro rfl
        exact hc.2.2.2 rfl
      rw [this]; simp)]
theorem lit_itoa (n : Int) (h1 : -2147483648 ≤ n) (h2 : n < 2147483648) : litP (itoa n) = (⟨1, false, n, ByteArray.empty, false⟩, 0) := by
  by_cases hn : n < 0
  · have hi : itoa n = 45 :: decDigits n.natAbs := by unfold itoa; rw [if_pos hn]
    obtain ⟨d1, d2, d3, d4⟩ := dec_dig n.natAbs
    rw [hi, not_words (.inl rfl)]
    refine num_of (d := decDigits n.natAbs) ?_ d1 d3 ?_ ?_
    · unfold trimPrefix
      rw [if_pos (by simp [hasPrefix])]; rfl
    · rintro ⟨a, _⟩
      apply d4 (by omega)
      cases hd : decDigits n.natAbs with
      | nil => exact absurd hd d3
      | cons c r => rw [hd] at a; simpa using a
    · rw [parse_neg _ d3 d1, d2, if_pos (by omega)]
      congr 1
      omega
  · have hi : itoa n = decDigits n.toNat := by unfold itoa; rw [if_neg hn]
    obtain ⟨d1, d2, d3, d4⟩ := dec_dig n.toNat
    rw [hi]
    have hz : n.toNat = 0 → decDigits n.toNat = [48] := by intro h; rw [h, decDigits_one (by omega)]; rfl
    have hpr : parseIntB 32 (decDigits n.toNat) = .ok n := by
      rw [parse_pos _ d3 d1, d2, if_pos (by omega)]
      congr 1
      omega
    cases hd : decDigits n.toNat with
    | nil => exact absurd hd d3
    | cons c r =>
      rw [hd] at d1 d3 d4 hz hpr
      obtain ⟨c1, _⟩ := allDig_cons d1
      rw [not_words (.inr c1)]
      refine num_of (d := c :: r) ?_ d1 d3 ?_ hpr
      · unfold trimPrefix
        rw [if_neg]
        unfold hasPrefix
        simp only [List.isPrefixOf, Bool.and_true, beq_iff_eq]
        rintro rfl
        have : (45 : UInt8).toNat = 45 := rfl
        omega
      · rintro ⟨a, b⟩
        by_cases h0 : n.toNat = 0
        · exact b (hz h0)
        · exact d4 (by omega) (by simpa using a)
theorem lit_quoted (t : List UInt8) (hv : validD t = true) (hl : t.length ≤ 200) : litP (39 :: dbl t ++ [39]) = (⟨2, false, 0, ⟨t.toArray⟩, false⟩, 0) := by
  have e1 : 39 :: dbl t ++ [39] = 39 :: (dbl t ++ [39]) := rfl
  have hq : isQ (39 :: dbl t ++ [39]) = true := by
    unfold isQ
    have a : ((39 :: dbl t ++ [39]).getD ((39 :: dbl t ++ [39]).length - 1) 0 == 39) = true := by
      have : (39 :: dbl t ++ [39]).length - 1 = (39 :: dbl t).length := by simp
      rw [this, List.getD, List.getElem?_append_right (Nat.le_refl _), Nat.sub_self]; rfl
    rw [a]
    simp
  unfold litP
  rw [if_neg (by rw [e1]; unfold nullL; intro e; injection e with e _; exact absurd e (by decide)),
    if_neg (by
      rw [e1]
      rintro (e | e)
      · unfold trueL at e; injection e with e _; exact absurd e (by decide)
      · unfold falseL at e; injection e with e _; exact absurd e (by decide)),
    if_pos hq]
  have hm : ((39 :: dbl t ++ [39]).take ((39 :: dbl t ++ [39]).length - 1)).drop 1 = dbl t := by
    have : (39 :: dbl t ++ [39]).length - 1 = (39 :: dbl t).length := by simp
    rw [this, List.take_left']
    · rfl
    · rfl
  rw [hm]
  unfold quotP
  rw [unq_dbl]
  simp only
  rw [if_neg (by rw [hv]; simp), if_neg (by omega)]
theorem lit_text {v : RV} (h : formP v = 0) : litP (textP v) = (if v.nl then ⟨0, true, 0, ByteArray.empty, false⟩ else v, 0) := by
  obtain ⟨⟨t1, t2⟩, a1, a2, a3, ⟨a4, a5⟩, a6, a7⟩ := form_parts h
  unfold textP
  rw [if_neg (by simpa using h)]
  obtain ⟨ty, nl, n, tx, b⟩ := v
  simp only at *
  cases nl with
  | true => rfl
  | false =>
    obtain rfl | rfl | rfl : ty = 1 ∨ ty = 2 ∨ ty = 3 := by omega
    · obtain rfl := a2 (.inl (by omega))
      obtain rfl := a3 (.inl (by omega))
      exact lit_itoa n a4 a5
    · obtain rfl := a1 (.inl (by omega))
      obtain rfl := a3 (.inl (by omega))
      have hs : tx.data.toList.length = tx.size := by simp
      have he : (⟨tx.data.toList.toArray⟩ : ByteArray) = tx := by cases tx; simp
      have := lit_quoted tx.data.toList a6 (by omega)
      rw [he] at this
      exact this
    · obtain rfl := a1 (.inl (by omega))
      obtain rfl := a2 (.inl (by omega))
      cases b <;> rfl
end Go.Proofs.YtpjbcadelmjmfaaGreatDoor
