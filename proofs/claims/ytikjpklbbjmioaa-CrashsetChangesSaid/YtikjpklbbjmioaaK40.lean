/- CrashsetChanges, plain: what an instruction does to the crash images. -/
import Derived.Test.YtikjpklbbjmioaaK25
namespace Go.Proofs.Ytikjpklbbjmioaa
open Go.RowKit
variable {R R' : Dv} {T T' : Nat}
/-- Every content that l' can have, l can have; and l' has no more stores. -/
def LSub (l l' : Ln) : Prop := (∀ k', k' ≤ l'.hist.length → ∃ k, k ≤ l.hist.length ∧ wordsL l k = wordsL l' k') ∧ l'.hist.length ≤ l.hist.length
theorem LSub.refl (l : Ln) : LSub l l := ⟨fun k h => ⟨k, h, rfl⟩, Nat.le_refl _⟩
theorem LSub.trans {a b c : Ln} (h : LSub a b) (g : LSub b c) : LSub a c := ⟨fun k hk => by
  obtain ⟨k1, h1, h2⟩ := g.1 k hk
  obtain ⟨k2, h3, h4⟩ := h.1 k1 h1
  exact ⟨k2, h3, h4.trans h2⟩, Nat.le_trans g.2 h.2⟩
theorem LSub.persist (l : Ln) (k : Nat) : LSub l (persistL l k) := by
  have hl : (persistL l k).hist.length = l.hist.length - k := by simp [persistL]
  refine ⟨fun k' hk' => ?_, by omega⟩
  rw [words_persist]
  by_cases h : k + k' ≤ l.hist.length
  · exact ⟨k + k', h, rfl⟩
  · exact ⟨l.hist.length, Nat.le_refl _, (words_over l _ (by omega)).symm⟩
theorem fenceS_sub (ls : List Ln) (x : Nat × Nat) (i : Nat) : LSub (ls.getD i ln0) ((fenceS ls x).getD i ln0) := by
  unfold fenceS
  split
  · by_cases hx : x.1 < ls.length
    · rw [getD_set _ _ _ _ _ hx]
      split
      · rename_i e; rw [e]; exact LSub.persist _ _
      · exact LSub.refl _
    · rw [List.set_eq_of_length_le (by omega)]; exact LSub.refl _
  · exact LSub.refl _
theorem fold_sub (ns : List (Nat × Nat)) (i : Nat) : ∀ ls : List Ln, LSub (ls.getD i ln0) ((ns.foldl fenceS ls).getD i ln0) := by
  induction ns with
  | nil => intro ls; exact LSub.refl _
  | cons x r ih => intro ls; rw [List.foldl_cons]; exact (fenceS_sub ls x i).trans (ih _)
/-- One more store in one line. -/
def PutAt (R R' : Dv) : Prop := ∃ j p, j < R.lines.length ∧ ∀ i, R'.line i = if i = j then putL (R.line j) p else R.line i
def SubAll (R R' : Dv) : Prop := ∀ i, LSub (R.line i) (R'.line i)
theorem sub_lines (h : R'.lines = R.lines) : SubAll R R' := fun i => by unfold Dv.line; rw [h]; exact LSub.refl _
theorem put_at {o v : Nat} (ho : R.isB o = true) (h : R'.lines = R.lines) : PutAt R (putP R' o v) := by
  unfold Dv.isB at ho
  have h1 := (of_decide_eq_true ho).2
  refine ⟨o / 64, (o, v), by omega, fun i => ?_⟩
  unfold putP
  rw [setLine_line _ (by rw [h]; omega)]
  unfold Dv.line
  rw [h]
theorem do_cases (R : Dv) (x : Evt) : SubAll R (doP R x) ∨ PutAt R (doP R x) := by
  unfold doP
  split
  · exact .inl (sub_lines (mayP_lines _ _ _))
  split
  · unfold storeP
    split
    · rename_i hc
      unfold countB at hc
      simp only [Bool.and_eq_true] at hc
      exact .inr (put_at hc.1.2 (countP_lines _ _ _).1)
    · exact .inl (sub_lines (countP_lines _ _ _).1)
  split
  · unfold casP
    split
    · rename_i hc
      unfold casB countB at hc
      simp only [Bool.and_eq_true] at hc
      exact .inr (put_at hc.1.1.2 (countP_lines _ _ _).1)
    · exact .inl (sub_lines (countP_lines _ _ _).1)
  split
  · unfold flushP
    split
    · exact .inl (sub_lines (countP_lines _ _ _).1)
    · exact .inl (sub_lines (countP_lines _ _ _).1)
  split
  · unfold fenceP
    split
    · refine .inl (fun i => ?_)
      unfold fencedP Dv.line
      rw [(countP_lines _ _ _).1]
      exact fold_sub _ _ _
    · exact .inl (sub_lines (countP_lines _ _ _).1)
  split
  · unfold backP
    split
    · rename_i hc
      refine .inl (fun i => ?_)
      unfold backB at hc
      simp only [Bool.and_eq_true, decide_eq_true_eq] at hc
      rw [setLine_line _ (by omega)]
      split
      · rename_i e; rw [e]; exact LSub.persist _ _
      · exact LSub.refl _
    · exact .inl (LSub.refl <| R.line ·)
  · unfold armP
    split
    · exact .inl (fun i => LSub.refl _)
    · exact .inl (sub_lines rfl)
/-- How many stores the first n lines have. -/
def sumH (R : Dv) : Nat → Nat
  | 0 => 0
  | n + 1 => sumH R n + (R.line n).hist.length
theorem sumH_le (h : SubAll R R') : ∀ n, sumH R' n ≤ sumH R n
  | 0 => Nat.le_refl _
  | n + 1 => Nat.add_le_add (sumH_le h n) (h n).2
theorem sumH_put {j : Nat} {p : Nat × Nat} (h : ∀ i, R'.line i = if i = j then putL (R.line j) p else R.line i) : ∀ n, sumH R' n = sumH R n + if j < n then 1 else 0
  | 0 => by simp [sumH]
  | n + 1 => by
    have h1 := sumH_put h n
    have h2 : (R'.line n).hist.length = (R.line n).hist.length + if n = j then 1 else 0 := by
      rw [h n]
      by_cases e : n = j
      · rw [if_pos e, if_pos e, e]; simp [putL]
      · rw [if_neg e, if_neg e]; rfl
    simp only [sumH]
    rw [h1, h2]
    by_cases e1 : j < n
    · rw [if_pos e1, if_neg (by omega), if_pos (by omega)]; omega
    · by_cases e2 : n = j
      · rw [if_neg e1, if_pos e2, if_pos (by omega)]; omega
      · rw [if_neg e1, if_neg e2, if_neg (by omega)]; omega
/-- The images of R' are images of R. -/
theorem sub_poss (hok : R.Ok T) (hok' : R'.Ok T') (hl : R'.lines.length = R.lines.length) (h : SubAll R R') (kf : Nat → Nat) (hk : ∀ l, l < R'.lines.length → kf l ≤ (R'.line l).hist.length) : possB R (crashW R' kf) = true := by
  unfold possB
  rw [decide_eq_true (by rw [crashW_len hok', hl]), Bool.true_and]
  unfold possTo
  rw [List.all_eq_true]
  intro i hi
  have hi := List.mem_range.1 hi
  obtain ⟨k, h1, h2⟩ := (h i).1 (kf i) (hk i (by omega))
  refine least_has h1 ?_
  unfold lineW
  have h3 := crash_line hok' kf i (by omega)
  exact h2.trans h3.symm
/-- The images of R are images of R', which has one more store. -/
theorem put_poss (hok : R.Ok T) (hok' : R'.Ok T') (hl : R'.lines.length = R.lines.length) (h : PutAt R R') (kf : Nat → Nat) (hk : ∀ l, l < R.lines.length → kf l ≤ (R.line l).hist.length) : possB R' (crashW R kf) = true := by
  obtain ⟨j, p, hj, h⟩ := h
  unfold possB
  rw [decide_eq_true (by rw [crashW_len hok, hl]), Bool.true_and]
  unfold possTo
  rw [List.all_eq_true]
  intro i hi
  have hi := List.mem_range.1 hi
  have h1 := hk i (by omega)
  have h3 := crash_line hok kf i (by omega)
  refine least_has (k := kf i) ?_ ?_
  · rw [h i]; split
    · rename_i e; subst e; simp [putL]; omega
    · exact h1
  · unfold lineW
    rw [h i]
    split
    · rename_i e; subst e; rw [words_put _ _ _ h1]; exact h3.symm
    · exact h3.symm
theorem digK_le (R : Dv) (n l : Nat) (hl : l < R.lines.length) : kOf R (digR R (dirtyL R) n) l ≤ (R.line l).hist.length := by
  unfold kOf
  by_cases hd : 0 < (R.line l).hist.length
  · rw [if_pos hd]
    by_cases h2 : (dirtyTo R l).length < (digR R (dirtyL R) n).length
    · rw [if_pos h2]; exact digR_le R _ n _ l (dirty_place hl hd)
    · rw [if_neg h2]; exact Nat.zero_le _
  · rw [if_neg hd]; exact Nat.zero_le _
/-- What the law asks. -/
theorem changes_now (hok : R.Ok T) (hok' : R'.Ok T') (x : Evt) (he : R' = doP R x) (n : Nat) :
    (sumH R R.lines.length < sumH R' R.lines.length → possB R' (crashW R (kOf R (digR R (dirtyL R) n))) = true) ∧ (¬ sumH R R.lines.length < sumH R' R.lines.length → possB R (crashW R' (kOf R' (digR R' (dirtyL R') n))) = true) := by
  have hl : R'.lines.length = R.lines.length := by rw [he]; exact doP_len R x
  have hc := do_cases R x
  rw [← he] at hc
  refine ⟨fun h => ?_, fun h => ?_⟩
  · rcases hc with hc | hc
    · have := sumH_le hc R.lines.length; omega
    · exact put_poss hok hok' hl hc _ (fun l hl => digK_le R n l hl)
  · rcases hc with hc | ⟨j, p, hj, hc⟩
    · exact sub_poss hok hok' hl hc _ (fun l hl => digK_le R' n l hl)
    · have := sumH_put hc R.lines.length
      rw [if_pos hj] at this; omega
end Go.Proofs.Ytikjpklbbjmioaa
