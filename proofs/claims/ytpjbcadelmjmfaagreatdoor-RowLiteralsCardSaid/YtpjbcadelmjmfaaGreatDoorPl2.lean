/- Text after Literal, plain. No program in sight. -/
import Derived.Test.YtpjbcadelmjmfaaGreatDoorPl
namespace Go.Proofs.YtpjbcadelmjmfaaGreatDoor
open Go.Lib
set_option linter.unusedVariables false

theorem emp_dat0 : ByteArray.empty.data.toList = [] := rfl
theorem valid_nil : validD [] = true := by unfold validD; rfl
theorem form_num {n : Int} (h1 : -2147483648 ≤ n) (h2 : n < 2147483648) : formP ⟨1, false, n, ByteArray.empty, false⟩ = 0 := by
  unfold formP
  simp only [emp_dat0, valid_nil]
  rw [if_neg (by simp), if_neg (by simp; omega), if_neg (by decide)]
theorem form_bool (b : Bool) : formP ⟨3, false, 0, ByteArray.empty, b⟩ = 0 := by
  unfold formP
  simp only [emp_dat0, valid_nil]
  cases b <;> decide
theorem form_text {t : List UInt8} (h1 : validD t = true) (h2 : t.length ≤ 200) : formP ⟨2, false, 0, ⟨t.toArray⟩, false⟩ = 0 := by
  unfold formP
  have e : (⟨t.toArray⟩ : ByteArray).size = t.length := by show t.toArray.size = _; simp
  have e2 : (⟨t.toArray⟩ : ByteArray).data.toList = t := rfl
  simp only [e, e2, h1]
  rw [if_neg (by simp), if_neg (by simp), if_neg (by omega)]
theorem isQ_eq {s : List UInt8} (h : isQ s = true) : 39 :: (s.take (s.length - 1)).drop 1 ++ [39] = s := by
  unfold isQ at h
  simp only [Bool.and_eq_true, decide_eq_true_eq, beq_iff_eq] at h
  obtain ⟨⟨h1, h2⟩, h3⟩ := h
  cases s with
  | nil => simp at h1
  | cons c r =>
    simp only [List.getD_cons_zero] at h2
    subst h2
    have hr : r ≠ [] := by rintro rfl; simp at h1
    obtain ⟨m, l, rfl⟩ : ∃ m l, r = m ++ [l] := ⟨r.dropLast, r.getLast hr, (List.dropLast_concat_getLast hr).symm⟩
    have hl : (39 :: (m ++ [l])).length - 1 = (39 :: m).length := by simp
    rw [hl] at h3 ⊢
    have e : 39 :: (m ++ [l]) = (39 :: m) ++ [l] := rfl
    rw [e, List.getD, List.getElem?_append_right (Nat.le_refl _), Nat.sub_self] at h3
    have h3' : l = 39 := h3
    subst h3'
    rw [e, List.take_left']
    · rfl
    · rfl
theorem text_lit {s : List UInt8} {v : RV} (h : litP s = (v, 0)) (hn : v.nl = false) : textP v = s ∧ formP v = 0 := by
  unfold litP at h
  split at h
  · injection h with h _; rw [← h] at hn; cases hn
  · split at h
    · rename_i hw
      injection h with h _
      subst h
      refine ⟨?_, form_bool _⟩
      unfold textP
      rw [if_neg (by rw [form_bool]; simp)]
      rcases hw with hw | hw
      · subst hw; rfl
      · subst hw; rfl
    · split at h
      · rename_i hq
        have hs := isQ_eq hq
        unfold quotP at h
        split at h
        · injection h with _ h; cases h
        · rename_i t ht
          split at h
          · injection h with _ h <;> cases h
          · rename_i hv
            split at h
            · injection h with _ h <;> cases h
            · rename_i hl
              injection h with h _
              subst h
              have hf := form_text (t := t) (by simpa using hv) (by omega)
              refine ⟨?_, hf⟩
              unfold textP
              rw [if_neg (by rw [hf]; simp)]
              show 39 :: dbl t ++ [39] = s
              rw [(unq_some _ _ ht).1]
              exact hs
      · unfold numP at h
        simp only at h
        split at h
        · injection h with _ h; cases h
        · rename_i hb
          have hd : allDig (trimPrefix s [45]) = true := by
            cases hx : allDig (trimPrefix s [45]) with
            | true => rfl
            | false => exact absurd (.inl hx) hb
          have hne : trimPrefix s [45] ≠ [] := fun e => hb (.inr (.inl e))
          have hld : ¬ ((trimPrefix s [45]).getD 0 0 = 48 ∧ s ≠ [48]) := fun e => hb (.inr (.inr e))
          split at h
          · rename_i n hp
            injection h with h _
            subst h
            suffices hk : itoa n = s ∧ -2147483648 ≤ n ∧ n < 2147483648 by
              have hf := form_num hk.2.1 hk.2.2
              refine ⟨?_, hf⟩
              unfold textP
              rw [if_neg (by rw [hf]; simp)]
              exact hk.1
            by_cases hpre : hasPrefix s [45] = true
            · obtain ⟨d, rfl⟩ : ∃ d, s = 45 :: d := by
                cases s with
                | nil => simp [hasPrefix] at hpre
                | cons c r =>
                  simp [hasPrefix, List.isPrefixOf] at hpre
                  exact ⟨r, by rw [hpre]⟩
              have hdd : trimPrefix (45 :: d) [45] = d := by unfold trimPrefix; rw [if_pos hpre]; rfl
              rw [hdd] at hd hne hld
              rw [parse_neg d hne hd] at hp
              split at hp
              · rename_i hv
                injection hp with hp
                have h48 : d.head? ≠ some 48 := by
                  intro e
                  apply hld
                  cases d with
                  | nil => cases e
                  | cons c r => injection e with e; exact ⟨by rw [e]; rfl, by simp⟩
                obtain ⟨g1, g2⟩ := val_dec d hne hd (.inl h48)
                have hv0 := g2 h48
                rw [← hp]
                refine ⟨?_, by omega, by omega⟩
                unfold itoa
                rw [if_pos (by omega)]
                have : (-(valFrom 0 d : Int)).natAbs = valFrom 0 d := by omega
                rw [this, g1]
              · cases hp
            · have hdd : trimPrefix s [45] = s := by unfold trimPrefix; rw [if_neg hpre]
              rw [hdd] at hd hne hld
              rw [parse_pos s hne hd] at hp
              split at hp
              · rename_i hv
                injection hp with hp
                have h48 : s.head? ≠ some 48 ∨ s = [48] := by
                  by_cases e : s = [48]
                  · exact .inr e
                  · refine .inl fun e2 => hld ⟨?_, e⟩
                    cases s with
                    | nil => cases e2
                    | cons c r => injection e2 with e2
                obtain ⟨g1, _⟩ := val_dec s hne hd h48
                rw [← hp]
                refine ⟨?_, by omega, by omega⟩
                unfold itoa
                rw [if_neg (by omega)]
                have : (valFrom 0 s : Int).toNat = valFrom 0 s := by omega
                rw [this, g1]
              · cases hp
          · injection h with _ h <;> cases h
theorem lit_ty (s : List UInt8) : (litP s).1.ty < 256 := by
  unfold litP
  split
  · decide
  · split
    · show (3 : Nat) < 256; decide
    · split
      · unfold quotP; split
        · decide
        · split
          · decide
          · split
            · decide
            · show (2 : Nat) < 256; decide
      · unfold numP; simp only; split
        · decide
        · split
          · show (1 : Nat) < 256; decide
          · decide
theorem lit_size (s : List UInt8) : (litP s).1.tx.size ≤ 200 := by
  unfold litP
  split
  · decide
  · split
    · show ByteArray.empty.size ≤ 200; decide
    · split
      · unfold quotP; split
        · decide
        · split
          · decide
          · split
            · decide
            · rename_i t _ _ hl
              show (⟨t.toArray⟩ : ByteArray).size ≤ 200
              have e : (⟨t.toArray⟩ : ByteArray).size = t.length := by show t.toArray.size = _; simp
              omega
      · unfold numP; simp only; split
        · decide
        · split
          · show ByteArray.empty.size ≤ 200; decide
          · decide
end Go.Proofs.YtpjbcadelmjmfaaGreatDoor
