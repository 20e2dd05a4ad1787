/- A word of a crash image is the persisted one, or was stored. Plain laws. -/
import Derived.Test.YtkmhanjddkplbaaP3
namespace Go.Proofs.Ytkmhanjddkplbaa
open Go.RowKit

theorem fold_word (j : Nat) : ∀ (ps : List (Nat × Nat)) (ws : List Nat), j < ws.length → (ps.foldl setW ws).getD j 0 = ws.getD j 0 ∨ ∃ p ∈ ps, p.1 % 64 / 8 = j ∧ p.2 = (ps.foldl setW ws).getD j 0
  | [], ws, _ => .inl rfl
  | p :: ps, ws, h => by
    have hl : (setW ws p).length = ws.length := setW_len ws p
    rcases fold_word j ps (setW ws p) (by omega) with h1 | ⟨q, hq, h2⟩
    · rw [List.foldl_cons, h1]
      by_cases e : p.1 % 64 / 8 = j
      · right
        refine ⟨p, List.mem_cons_self .., e, ?_⟩
        unfold setW
        rw [getD_set _ _ _ _ _ (by omega), if_pos e.symm]
      · left
        unfold setW
        rcases Nat.lt_or_ge (p.1 % 64 / 8) ws.length with h3 | h3
        · rw [getD_set _ _ _ _ _ h3, if_neg (Ne.symm e)]
        · rw [List.set_eq_of_length_le h3]
    · exact .inr ⟨q, List.mem_cons_of_mem _ hq, by rw [List.foldl_cons]; exact h2⟩
/-- Word j of line i of an image. -/
theorem line_word {R : Dv} {T : Nat} (hok : R.Ok T) {i : Nat} (hi : i < R.lines.length) (k j : Nat) (hj : j < 8) :
    (wordsL (R.line i) k).getD j 0 = (R.line i).base.getD j 0 ∨ ∃ p ∈ (R.line i).hist, p.1 = 64 * i + 8 * j ∧ p.2 = (wordsL (R.line i) k).getD j 0 := by
  have hl := hok.ln i hi
  rcases fold_word j ((R.line i).hist.take k) (R.line i).base (by rw [hl.b]; exact hj) with h | ⟨p, hp, h1, h2⟩
  · exact .inl h
  · right
    have hp2 := List.mem_of_mem_take hp
    obtain ⟨a, b, _⟩ := hl.h p hp2
    exact ⟨p, hp2, by omega, h2⟩
theorem per_word {R : Dv} {T : Nat} (hok : R.Ok T) {i : Nat} (hi : i < R.lines.length) {j : Nat} (hj : j < 8) : R.perW.getD (8 * i + j) 0 = (R.line i).base.getD j 0 := by
  have := flat_get Ln.base R.lines hok.b8 i j _ (R.line_get hi) hj
  unfold Dv.perW
  rw [List.getD, this]
  rfl
theorem crash_word {R : Dv} {T : Nat} (hok : R.Ok T) (kf : Nat → Nat) {i : Nat} (hi : i < R.lines.length) {j : Nat} (hj : j < 8) : (crashW R kf).getD (8 * i + j) 0 = (wordsL (R.line i) (kf i)).getD j 0 := by
  have := flat_get Ln.base (crashLs R kf) (crashLs_8 hok _) i j _ (crashLs_get R _ _ hi) hj
  unfold crashW
  rw [List.getD, this]
  rfl
/-- What the law asks of each word. -/
theorem image_from {R : Dv} {T : Nat} (hok : R.Ok T) (kf : Nat → Nat) {i : Nat} (hi : i < R.lines.length) {j : Nat} (hj : j < 8) :
    (crashW R kf).getD (8 * i + j) 0 = R.perW.getD (8 * i + j) 0 ∨ ∃ p ∈ (R.line i).hist, p.1 = 64 * i + 8 * j ∧ p.2 = (crashW R kf).getD (8 * i + j) 0 := by
  rw [crash_word hok kf hi hj, per_word hok hi hj]
  exact line_word hok hi (kf i) j hj
end Go.Proofs.Ytkmhanjddkplbaa
