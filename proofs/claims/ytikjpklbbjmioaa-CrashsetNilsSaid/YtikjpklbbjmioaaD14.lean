/- The program's device: Image. -/
import Derived.Test.YtikjpklbbjmioaaD13
namespace Go.Proofs.Ytikjpklbbjmioaa
open Go.RowKit Go.Maps
variable {w : World} {F : Own} {o T : Nat} {L : Lay} {R : Dv}

/-! ### crash images as words -/
def crashLs (R : Dv) (kf : Nat → Nat) : List Ln := (List.range R.lines.length).map fun l => ⟨wordsL (R.line l) (kf l), [], 0⟩
def crashW (R : Dv) (kf : Nat → Nat) : List Nat := (crashLs R kf).flatMap Ln.base
theorem crashLs_len (R : Dv) (kf : Nat → Nat) : (crashLs R kf).length = R.lines.length := by simp [crashLs]
theorem crashLs_get (R : Dv) (kf : Nat → Nat) (l : Nat) (h : l < R.lines.length) : (crashLs R kf)[l]? = some ⟨wordsL (R.line l) (kf l), [], 0⟩ := by
  unfold crashLs; rw [List.getElem?_map, List.getElem?_range h]; rfl
theorem crashLs_8 (h : R.Ok T) (kf : Nat → Nat) : ∀ l ∈ crashLs R kf, (Ln.base l).length = 8 := by
  intro l hl
  unfold crashLs at hl
  simp only [List.mem_map, List.mem_range] at hl
  obtain ⟨i, hi, rfl⟩ := hl
  show (wordsL _ _).length = 8
  rw [wordsL_len]; exact (h.ln i hi).b
theorem crashW_len (h : R.Ok T) (kf : Nat → Nat) : (crashW R kf).length = R.lines.length * 8 := by
  unfold crashW; rw [flat_len _ _ (crashLs_8 h kf), crashLs_len]; omega
theorem crashW_lt (h : R.Ok T) (kf : Nat → Nat) : ∀ x ∈ crashW R kf, x < 18446744073709551616 := by
  intro x hx
  unfold crashW crashLs at hx
  simp only [List.mem_flatMap, List.mem_map, List.mem_range] at hx
  obtain ⟨l, ⟨i, hi, rfl⟩, hx⟩ := hx
  exact (h.ln i hi).words _ x hx
theorem crashW_congr (R : Dv) (kf kf' : Nat → Nat) (h : ∀ l, l < R.lines.length → wordsL (R.line l) (kf l) = wordsL (R.line l) (kf' l)) : crashW R kf = crashW R kf' := by
  unfold crashW crashLs
  congr 1
  apply List.map_congr_left
  intro l hl
  rw [h l (by simpa using hl)]
theorem crashW_zero (R : Dv) : crashW R (fun _ => 0) = R.perW := by
  unfold crashW crashLs Dv.perW
  rw [List.flatMap_def, List.flatMap_def, List.map_map]
  congr 1
  apply List.ext_getElem?
  intro i
  rcases Nat.lt_or_ge i R.lines.length with h | h
  · rw [List.getElem?_map, List.getElem?_range h, List.getElem?_map, R.line_get h]; rfl
  · rw [List.getElem?_eq_none (by simpa using h), List.getElem?_eq_none (by simpa using h)]
theorem crashW_all (R : Dv) : crashW R (fun l => (R.line l).hist.length) = R.curW := by
  unfold crashW crashLs Dv.curW
  rw [List.flatMap_def, List.flatMap_def, List.map_map]
  congr 1
  apply List.ext_getElem?
  intro i
  rcases Nat.lt_or_ge i R.lines.length with h | h
  · rw [List.getElem?_map, List.getElem?_range h, List.getElem?_map, R.line_get h]; rfl
  · rw [List.getElem?_eq_none (by simpa using h), List.getElem?_eq_none (by simpa using h)]
theorem crash_set (h : R.Ok T) (kf kf' : Nat → Nat) (n : Nat) (hn : n < R.lines.length) (he : ∀ l, l < R.lines.length → l ≠ n → wordsL (R.line l) (kf' l) = wordsL (R.line l) (kf l)) (h0 : kf n = 0) :
    crashW R kf' = ((R.line n).hist.take (kf' n)).foldl setA (crashW R kf) := by
  have e : crashLs R kf' = (crashLs R kf).set n ⟨wordsL (R.line n) (kf' n), [], 0⟩ := by
    apply List.ext_getElem?
    intro l
    by_cases hl : l < R.lines.length
    · rw [crashLs_get R kf' l hl, List.getElem?_set]
      by_cases e : n = l
      · subst e; rw [if_pos rfl, if_pos (by rw [crashLs_len]; exact hl)]
      · rw [if_neg e, crashLs_get R kf l hl, he l hl (fun h => e h.symm)]
    · rw [List.getElem?_eq_none (by rw [crashLs_len]; omega), List.getElem?_eq_none (by simp [crashLs_len]; omega)]
  have hg := crashLs_get R kf n hn
  have := persist_per (crashLs R kf) (crashLs_8 h kf) n (by rw [crashLs_len]; exact hn) ((R.line n).hist.take (kf' n)) (fun p hp => ((h.ln n hn).h p (List.mem_of_mem_take hp)).1)
    ⟨wordsL (R.line n) (kf n), [], 0⟩ (by show (wordsL _ _).length = 8; rw [wordsL_len]; exact (h.ln n hn).b) ⟨wordsL (R.line n) (kf' n), [], 0⟩ (by rw [h0]; rfl)
  unfold crashW
  rw [e, this]
  congr 1
  have e2 : (crashLs R kf).set n ⟨wordsL (R.line n) (kf n), [], 0⟩ = crashLs R kf := by
    have := set_getD_self (crashLs R kf) n ln0
    rw [getD_of ln0 hg] at this
    exact this
  rw [e2]
/-- How many stores a choice takes of a line. -/
def chK (R : Dv) (ch : List Nat) (l : Nat) : Nat := if ch = [] then 0 else ch.getD ((dirtyTo R l).length % ch.length) 0 % ((R.line l).hist.length + 1)
def chJ (R : Dv) (ch : List Nat) (j l : Nat) : Nat := if (dirtyTo R l).length < j then chK R ch l else 0
def imageW (R : Dv) (ch : List Nat) : List Nat := crashW R (chK R ch)
theorem chK_le (R : Dv) (ch : List Nat) (l : Nat) : chK R ch l ≤ (R.line l).hist.length := by
  unfold chK
  split
  · omega
  · have := Nat.mod_lt (ch.getD ((dirtyTo R l).length % ch.length) 0) (show 0 < (R.line l).hist.length + 1 by omega); omega
theorem dirtyTo_mono {R : Dv} {a b : Nat} (h : a ≤ b) : ∃ t, dirtyTo R b = dirtyTo R a ++ t := by
  induction b with
  | zero => obtain rfl : a = 0 := by omega
            exact ⟨[], by simp⟩
  | succ b ih =>
    rcases Nat.lt_or_ge b a with h1 | h1
    · obtain rfl : a = b + 1 := by omega
      exact ⟨[], by simp⟩
    · obtain ⟨t, ht⟩ := ih h1
      rw [dirtyTo_succ, ht]
      split
      · exact ⟨t ++ [b], by rw [List.append_assoc]⟩
      · exact ⟨t, rfl⟩
/-- The place of a line among the dirty ones. -/
theorem dirty_at {R : Dv} {j n : Nat} (h : (dirtyL R)[j]? = some n) : (dirtyTo R n).length = j ∧ n < R.lines.length ∧ 0 < (R.line n).hist.length := by
  have hm := dirtyTo_mem (List.mem_of_getElem? h)
  obtain ⟨t, ht⟩ := dirtyTo_mono (R := R) (show n + 1 ≤ R.lines.length by omega)
  have hs := dirtyTo_succ R n
  rw [if_pos hm.2] at hs
  refine ⟨?_, hm⟩
  unfold dirtyL at h
  have hnd : (dirtyTo R R.lines.length).Nodup := List.nodup_range.sublist List.filter_sublist
  have h2 : (dirtyTo R R.lines.length)[(dirtyTo R n).length]? = some n := by
    rw [ht, hs, List.append_assoc, List.getElem?_append_right (Nat.le_refl _)]; simp
  have hj : j < (dirtyTo R R.lines.length).length := by
    rcases Nat.lt_or_ge j (dirtyTo R R.lines.length).length with h1 | h1
    · exact h1
    · rw [List.getElem?_eq_none h1] at h; cases h
  exact ((List.getElem?_inj hj hnd).1 (h.trans h2.symm)).symm
theorem dirty_lt {R : Dv} {l : Nat} (hl : l < R.lines.length) (hd : 0 < (R.line l).hist.length) : (dirtyTo R l).length < (dirtyL R).length := by
  obtain ⟨t, ht⟩ := dirtyTo_mono (R := R) (show l + 1 ≤ R.lines.length by omega)
  have hs := dirtyTo_succ R l
  rw [if_pos hd] at hs
  unfold dirtyL
  rw [ht, hs]; simp
theorem dirty_place {R : Dv} {l : Nat} (hl : l < R.lines.length) (hd : 0 < (R.line l).hist.length) : (dirtyL R)[(dirtyTo R l).length]? = some l := by
  obtain ⟨t, ht⟩ := dirtyTo_mono (R := R) (show l + 1 ≤ R.lines.length by omega)
  have hs := dirtyTo_succ R l
  rw [if_pos hd] at hs
  unfold dirtyL
  rw [ht, hs, List.append_assoc, List.getElem?_append_right (Nat.le_refl _)]; simp
theorem chJ_step (h : R.Ok T) (ch : List Nat) {j n : Nat} (hd : (dirtyL R)[j]? = some n) : crashW R (chJ R ch (j + 1)) = ((R.line n).hist.take (chK R ch n)).foldl setA (crashW R (chJ R ch j)) := by
  obtain ⟨h1, h2, h3⟩ := dirty_at hd
  have := crash_set h (chJ R ch j) (chJ R ch (j + 1)) n h2 ?_ ?_
  · have e : chJ R ch (j + 1) n = chK R ch n := by unfold chJ; rw [h1, if_pos (by omega)]
    rw [e] at this; exact this
  · intro l hl hne
    by_cases hc : 0 < (R.line l).hist.length
    · have : (dirtyTo R l).length ≠ j := by
        intro e
        have h4 := dirty_place hl hc
        rw [e, hd] at h4
        exact hne (Option.some.inj h4).symm
      unfold chJ
      by_cases hlt : (dirtyTo R l).length < j
      · rw [if_pos (by omega), if_pos hlt]
      · rw [if_neg (by omega), if_neg hlt]
    · have e0 : (R.line l).hist = [] := List.eq_nil_of_length_eq_zero (by omega)
      unfold wordsL; rw [e0]; simp
  · unfold chJ; rw [h1, if_neg (by omega)]
theorem chJ_zero (R : Dv) (ch : List Nat) : crashW R (chJ R ch 0) = R.perW := by
  rw [← crashW_zero]; exact crashW_congr _ _ _ (fun l _ => by unfold chJ; rw [if_neg (by omega)])
theorem chJ_all (R : Dv) (ch : List Nat) : crashW R (chJ R ch (dirtyL R).length) = imageW R ch := by
  refine crashW_congr _ _ _ (fun l hl => ?_)
  by_cases hc : 0 < (R.line l).hist.length
  · unfold chJ; rw [if_pos (dirty_lt hl hc)]
  · have e0 : (R.line l).hist = [] := List.eq_nil_of_length_eq_zero (by omega)
    unfold wordsL; rw [e0]; simp
theorem imageW_nil (R : Dv) : imageW R [] = R.perW := by
  rw [← crashW_zero]; exact crashW_congr _ _ _ (fun l _ => by unfold chK; rw [if_pos rfl])
theorem SubV.takeRd {w : World} {T : TypeId} {a : Option Addr} {c k : Nat} {ps : List (Nat × Nat)} (h : SubV w T 2 (.slice a ps.length c) ps.length (wcells ps)) (hk : k ≤ ps.length) : Rd w (.slice a k c) k (wcells (ps.take k)) := by
  obtain ⟨a', c', e1, h2⟩ := h.rd
  simp only [Value.slice.injEq, true_and] at e1
  obtain ⟨rfl, rfl⟩ := e1
  refine ⟨_, _, rfl, ?_⟩
  rcases h2 with ⟨h3, _⟩ | ⟨b', o', h3, h4⟩
  · exact .inl ⟨by omega, by rw [List.length_eq_zero_iff.1 (show (ps.take k).length = 0 by rw [List.length_take]; omega)]; rfl⟩
  · refine .inr ⟨b', o', h3, fun j u hj => h4 j u ?_⟩
    rw [← wcells_take, List.getElem?_take] at hj
    split at hj
    · exact hj
    · cases hj
end Go.Proofs.Ytikjpklbbjmioaa
