/- The walk of the reference's Literal, whole. -/
import Derived.Test.YtpjbcadelmjmfaaGreatDoorR33
import Derived.Test.YtpjbcadelmjmfaaGreatDoorPl
set_option linter.unusedVariables false
namespace Go.Proofs.YtpjbcadelmjmfaaGreatDoor
open Go.RowKit Go.Lib

set_option maxHeartbeats 4000000 in
set_option maxRecDepth 100000 in
theorem rlit_short0 (s : ByteArray) (h0 : s.data.toList = []) (w : World) :
    Calls Tryz.prog 28 #[.string s] w (RLitPost w (badV, 11)) := by
  have e1 : (s.toList == [110, 117, 108, 108]) = false := by rw [beqL, h0]; rfl
  have e2 : (s.toList == [116, 114, 117, 101]) = false := by rw [beqL, h0]; rfl
  have e3 : (s.toList == [102, 97, 108, 115, 101]) = false := by rw [beqL, h0]; rfl
  have e4 : (s.toList == ([] : List UInt8)) = true := by rw [beqL, h0]; rfl
  have hsl : s.data.toList.length = s.size := by simp
  have hz : s.size = 0 := by rw [← hsl, h0]; rfl
  have g0 : ¬ (s.size : Int) > 1 := by omega
  have g1 : ¬ (s.size : Int) > 0 := by omega
  have hf : RLitPost w (badV, 11) (.returned (.tuple #[.agg #[.int .i64 0, .bool false, .int .i64 0, .string ⟨#[]⟩, .bool false], .int .i64 11])) (w.alloc (.cells #[.int .i64 0, .bool false, .int .i64 0, .string ⟨#[]⟩, .bool false] 54)) := ⟨rfl, (Below.refl _ _).alloc (Nat.le_refl _) _⟩
  generalize RLitPost w (badV, 11) = post at *
  replace hf := Lib.hid hf
  replace h0 := Lib.hid h0
  replace hz := Lib.hid hz
  clear hsl
  go_enter Tryz.func28, Tryz.ntmps28
  go_wp2_with fail
  exact bodyPost_ret (v := .tuple #[.agg #[.int .i64 0, .bool false, .int .i64 0, .string ⟨#[]⟩, .bool false], .int .i64 11]) (by simp [results, Tryz.results28, go_sem]) rfl hf.out
set_option maxHeartbeats 4000000 in
set_option maxRecDepth 100000 in
theorem rlit_short1 (s : ByteArray) (h0 : s.data.toList = [45]) (w : World) :
    Calls Tryz.prog 28 #[.string s] w (RLitPost w (badV, 11)) := by
  have e1 : (s.toList == [110, 117, 108, 108]) = false := by rw [beqL, h0]; rfl
  have e2 : (s.toList == [116, 114, 117, 101]) = false := by rw [beqL, h0]; rfl
  have e3 : (s.toList == [102, 97, 108, 115, 101]) = false := by rw [beqL, h0]; rfl
  have hsl : s.data.toList.length = s.size := by simp
  have hz : s.size = 1 := by rw [← hsl, h0]; rfl
  have g0 : ¬ (s.size : Int) > 1 := by omega
  have g1 : (s.size : Int) > 0 := by omega
  have hx0 : ∀ h : 0 < s.size, (s[0]'h).toNat = 45 := fun h => by rw [btS_get s 0 h]; unfold btS; rw [h0]; rfl
  obtain ⟨D, hDe⟩ : ∃ D, D = s.extract 1 s.size := ⟨_, rfl⟩
  have hDd : D.data.toList = [] := by rw [hDe, extract_data, h0, hz]; rfl
  have e4 : (D.toList == ([] : List UInt8)) = true := by rw [beqL, hDd]; rfl
  have hsl2 : ∀ wx, (Instr.slice 9 (.string s) (some (.int .i64 1)) none none).run Tryz.prog wx = .ok (.string D) wx := by
    intro wx
    rw [hDe]
    have h5 := run_slice_string_from_if (P := Tryz.prog) wx 9 s .i64 1 Tryz.underlying9
    rw [h5, if_pos ⟨by omega, by omega⟩]
    rfl
  have hf : RLitPost w (badV, 11) (.returned (.tuple #[.agg #[.int .i64 0, .bool false, .int .i64 0, .string ⟨#[]⟩, .bool false], .int .i64 11])) (w.alloc (.cells #[.int .i64 0, .bool false, .int .i64 0, .string ⟨#[]⟩, .bool false] 54)) := ⟨rfl, (Below.refl _ _).alloc (Nat.le_refl _) _⟩
  generalize RLitPost w (badV, 11) = post at *
  replace hf := Lib.hid hf
  replace h0 := Lib.hid h0
  replace hz := Lib.hid hz
  replace hDe := Lib.hid hDe
  replace hDd := Lib.hid hDd
  clear hsl
  go_enter Tryz.func28, Tryz.ntmps28
  go_wp2_with fail
  exact bodyPost_ret (v := .tuple #[.agg #[.int .i64 0, .bool false, .int .i64 0, .string ⟨#[]⟩, .bool false], .int .i64 11]) (by simp [results, Tryz.results28, go_sem]) rfl hf.out
theorem num_bad (l : List UInt8) (h : trimPrefix l [45] = []) : numP l = (badV, 11) := by
  unfold numP
  rw [h]
  simp
theorem rlit_any (s : ByteArray) (hs : s.size ≤ 1000000) (w : World) :
    Calls Tryz.prog 28 #[.string s] w (RLitPost w (litP s.data.toList)) := by
  by_cases h1 : s.data.toList = nullL
  · exact rlit_words s hs w (.inl h1)
  by_cases h2 : s.data.toList = trueL
  · exact rlit_words s hs w (.inr (.inl h2))
  by_cases h3 : s.data.toList = falseL
  · exact rlit_words s hs w (.inr (.inr h3))
  have hsl : s.data.toList.length = s.size := by simp
  have hl : litP s.data.toList = if isQ s.data.toList then quotP (midL s) else numP s.data.toList := by
    unfold litP
    rw [if_neg h1, if_neg (by rintro (h | h); exact h2 h; exact h3 h)]
    rfl
  rw [hl]
  by_cases hq : isQ s.data.toList = true
  · rw [if_pos hq]
    exact rlit_quoted s hs w h1 h2 h3 hq
  · rw [if_neg hq]
    have hq2 : ¬ (2 ≤ s.data.toList.length ∧ s.data.toList.getD 0 0 = 39 ∧ s.data.toList.getD (s.data.toList.length - 1) 0 = 39) := by
      rintro ⟨a, b, c⟩
      apply hq
      unfold isQ
      rw [decide_eq_true a, b, c]; rfl
    cases hd : s.data.toList with
    | nil =>
      rw [num_bad [] (by simp [trimPrefix, hasPrefix])]
      exact rlit_short0 s hd w
    | cons c r =>
      by_cases h45 : c = 45
      · subst h45
        cases r with
        | nil =>
          rw [num_bad [45] (by simp [trimPrefix, hasPrefix])]
          exact rlit_short1 s hd w
        | cons d r =>
          have := rlit_num_neg s hs w (d :: r) hd (by simp)
          rw [hd] at this
          exact this
      · have hc : s.data.toList.getD 0 0 = c := by rw [hd]; rfl
        have g45 : s.data.toList.getD 0 0 ≠ 45 := by rw [hc]; exact h45
        have hne : s.data.toList ≠ [] := by rw [hd]; simp
        rw [← hd]
        have hpos : 0 < s.size := by rw [← hsl, hd]; simp
        by_cases hz : s.size = 1
        · exact rlit_pos1 s hs w _ rfl hne h1 h2 h3 g45 hz
        · by_cases h39 : s.data.toList.getD 0 0 = 39
          · exact rlit_pos3 s hs w _ rfl hne h1 h2 h3 g45 (by omega) h39 (fun e => hq2 ⟨by omega, h39, e⟩)
          · exact rlit_pos2 s hs w _ rfl hne h1 h2 h3 g45 (by omega) h39
end Go.Proofs.YtpjbcadelmjmfaaGreatDoor
