/- Plain: a device that is on and unarmed; what stores, flushes and a fence do to what its crash images may hold. -/
import Derived.Test.YtjmdibgncaljaaaP2
namespace Go.Proofs.Ytjmdibgncaljaaa.Dev
open Go.RowKit
structure Live (R : Dv) : Prop where
  off : R.off = false
  left : R.left = -1
  nl : 0 < R.notes.length
  b8 : ∀ i, i < R.lines.length → (R.line i).base.length = 8
def notes0 (R : Dv) : List (Nat × Nat) := R.notes.getD 0 []
theorem live_count {R : Dv} (h : Live R) : countB R true = true := by
  unfold countB; rw [h.off, h.left]; rfl
theorem live_step {R : Dv} (h : Live R) (t : Nat) : countP R t true = { R with exe := R.exe + 1 } := by
  unfold countP
  rw [h.off, h.left]
  simp only [Bool.false_eq_true, if_false, if_true]
  rw [if_neg (by decide), if_neg (by decide)]
theorem store_live {R : Dv} (h : Live R) {off v : Nat} (h8 : off % 8 = 0) (hl : off < 64 * R.lines.length) : storeP R 0 off v = putP { R with exe := R.exe + 1 } off v := by
  have e : R.isB off = true := by simp [Dv.isB, h8, hl]
  unfold storeP; rw [e, if_pos (live_count h), live_step h]
theorem store_line {R : Dv} (h : Live R) {off v : Nat} (h8 : off % 8 = 0) (hl : off < 64 * R.lines.length) (i : Nat) : (storeP R 0 off v).line i = if i = off / 64 then putL (R.line (off / 64)) (off, v) else R.line i := by
  rw [store_live h h8 hl]
  unfold putP
  rw [setLine_line _ (by show off / 64 < R.lines.length; omega)]
  rfl
theorem store_rest {R : Dv} (h : Live R) {off v : Nat} (h8 : off % 8 = 0) (hl : off < 64 * R.lines.length) : (storeP R 0 off v).lines.length = R.lines.length ∧ (storeP R 0 off v).notes = R.notes ∧ Live (storeP R 0 off v) := by
  have hlen : (storeP R 0 off v).lines.length = R.lines.length := by rw [store_live h h8 hl]; unfold putP; rw [setLine_len]
  refine ⟨hlen, by rw [store_live h h8 hl]; rfl, ?_, ?_, ?_, fun i hi => ?_⟩
  · rw [store_live h h8 hl]; exact h.off
  · rw [store_live h h8 hl]; exact h.left
  · rw [store_live h h8 hl]; exact h.nl
  · rw [hlen] at hi
    rw [store_line h h8 hl]
    split
    · rename_i e; subst e; exact h.b8 _ hi
    · exact h.b8 _ hi
theorem flush_live {R : Dv} (h : Live R) {off : Nat} (hl : off < 64 * R.lines.length) : flushP R 0 off = notedP { R with exe := R.exe + 1 } 0 (off / 64) := by
  have e : R.inB off = true := by simp [Dv.inB, hl]
  unfold flushP; rw [e, if_pos (live_count h), live_step h]
theorem flush_rest {R : Dv} (h : Live R) {off : Nat} (hl : off < 64 * R.lines.length) : (flushP R 0 off).lines = R.lines ∧ Live (flushP R 0 off) ∧ notes0 (flushP R 0 off) = noteL (notes0 R) (off / 64) ((R.line (off / 64)).done + (R.line (off / 64)).hist.length) := by
  rw [flush_live h hl]
  refine ⟨rfl, ⟨h.off, h.left, by show 0 < (R.notes.set 0 _).length; rw [List.length_set]; exact h.nl, h.b8⟩, ?_⟩
  unfold notes0 notedP
  show (R.notes.set 0 _).getD 0 [] = _
  rw [getD_set _ _ _ _ _ h.nl, if_pos rfl]
  rfl
theorem fence_live {R : Dv} (h : Live R) : fenceP R 0 = fencedP { R with exe := R.exe + 1 } 0 := by
  unfold fenceP; rw [if_pos (live_count h), live_step h]
theorem fence_line {R : Dv} (h : Live R) (i : Nat) : (fenceP R 0).line i = ((notes0 R).foldl fenceS R.lines).getD i ln0 := by
  rw [fence_live h]; rfl
theorem fenceS_base (ls : List Ln) (x : Nat × Nat) (i : Nat) : ((fenceS ls x).getD i ln0).base.length = (ls.getD i ln0).base.length := by
  unfold fenceS
  split
  · by_cases hx : x.1 < ls.length
    · rw [getD_set _ _ _ _ _ hx]
      split
      · rename_i e; subst e; exact wordsL_len _ _
      · rfl
    · rw [List.set_eq_of_length_le (by omega)]
  · rfl
theorem fold_base (ns : List (Nat × Nat)) (i : Nat) : ∀ ls : List Ln, ((ns.foldl fenceS ls).getD i ln0).base.length = (ls.getD i ln0).base.length := by
  induction ns with
  | nil => exact fun _ => rfl
  | cons x ns ih => exact fun ls => (ih _).trans (fenceS_base ls x i)
theorem fence_rest {R : Dv} (h : Live R) : (fenceP R 0).lines.length = R.lines.length ∧ Live (fenceP R 0) ∧ notes0 (fenceP R 0) = [] := by
  have hlen : (fenceP R 0).lines.length = R.lines.length := by rw [fence_live h]; exact fold_len _ _
  refine ⟨hlen, ⟨?_, ?_, ?_, fun i hi => ?_⟩, ?_⟩
  · rw [fence_live h]; exact h.off
  · rw [fence_live h]; exact h.left
  · rw [fence_live h]; show 0 < (R.notes.set 0 _).length; rw [List.length_set]; exact h.nl
  · rw [hlen] at hi
    rw [fence_line h, fold_base]; exact h.b8 i hi
  · rw [fence_live h]
    unfold notes0 fencedP
    show (R.notes.set 0 _).getD 0 [] = _
    rw [getD_set _ _ _ _ _ h.nl, if_pos rfl]
/-! ### what may be in a crash image -/
theorem InL.put_ne {l : Ln} {j : Nat} {V : List Nat} (h : InL l j V) {off v : Nat} (hj : off % 64 / 8 ≠ j) : InL (putL l (off, v)) j V := by
  intro k hk
  have hl : (putL l (off, v)).hist.length = l.hist.length + 1 := by simp [putL]
  rw [hl] at hk
  rcases Nat.lt_or_ge k (l.hist.length + 1) with h1 | h1
  · rw [words_put l _ k (by omega)]; exact h k (by omega)
  · obtain rfl : k = l.hist.length + 1 := by omega
    have e : wordsL (putL l (off, v)) (l.hist.length + 1) = setW (allL l) (off, v) := by
      rw [← allL_put]; unfold allL; rw [hl]
    rw [e]
    unfold setW
    have g : ((allL l).set (off % 64 / 8) v).getD j 0 = (allL l).getD j 0 := by
      rw [List.getD, List.getElem?_set_ne hj]; rfl
    rw [show (off, v).1 = off from rfl, show (off, v).2 = v from rfl, g]
    exact h _ (Nat.le_refl _)
theorem InV.store_ne {R : Dv} (hR : Live R) {o off v : Nat} {V : List Nat} (h : InV R o V) (h8 : off % 8 = 0) (hl : off < 64 * R.lines.length) (ho : o % 8 = 0) (hne : o ≠ off) : InV (storeP R 0 off v) o V := by
  unfold InV
  rw [store_line hR h8 hl]
  split
  · rename_i e
    rw [← e]
    exact InL.put_ne h (by omega)
  · exact h
theorem InV.store_eq {R : Dv} (hR : Live R) {off v : Nat} {V : List Nat} (h : InV R off V) (h8 : off % 8 = 0) (hl : off < 64 * R.lines.length) : InV (storeP R 0 off v) off (V ++ [v]) := by
  unfold InV
  rw [store_line hR h8 hl, if_pos rfl]
  have := InL.put h (off, v)
  have e : (allL (putL (R.line (off / 64)) (off, v))).getD (off % 64 / 8) 0 = v := by
    rw [allL_put]
    unfold setW
    rw [getD_set _ _ _ _ _ (by rw [show (allL (R.line (off / 64))).length = 8 from by unfold allL; rw [wordsL_len]; exact hR.b8 _ (by omega)]; show off % 64 / 8 < 8; omega), if_pos rfl]
  rwa [e] at this
theorem InV.flush {R : Dv} (hR : Live R) {o off : Nat} {V : List Nat} (h : InV R o V) (hl : off < 64 * R.lines.length) : InV (flushP R 0 off) o V := by
  unfold InV Dv.line at h ⊢
  rw [(flush_rest hR hl).1]; exact h
theorem InV.fence {R : Dv} (hR : Live R) {o : Nat} {V : List Nat} (h : InV R o V) : InV (fenceP R 0) o V := by
  unfold InV
  rw [fence_line hR]
  exact fold_get _ _ h
theorem store_val_ne {R : Dv} (hR : Live R) {o off v : Nat} (h8 : off % 8 = 0) (hl : off < 64 * R.lines.length) (ho : o % 8 = 0) (hne : o ≠ off) : valueP (storeP R 0 off v) o = valueP R o := by
  unfold valueP
  rw [store_line hR h8 hl]
  split
  · rename_i e
    rw [← e, allL_put]
    unfold setW
    rw [List.getD, List.getElem?_set_ne (by show off % 64 / 8 ≠ o % 64 / 8; omega)]; rfl
  · rfl
theorem store_val_eq {R : Dv} (hR : Live R) {off v : Nat} (h8 : off % 8 = 0) (hl : off < 64 * R.lines.length) : valueP (storeP R 0 off v) off = v := by
  unfold valueP
  rw [store_line hR h8 hl, if_pos rfl, allL_put]
  unfold setW
  rw [getD_set _ _ _ _ _ (by rw [show (allL (R.line (off / 64))).length = 8 from by unfold allL; rw [wordsL_len]; exact hR.b8 _ (by omega)]; show off % 64 / 8 < 8; omega), if_pos rfl]
theorem fenceS_all (ls : List Ln) (x : Nat × Nat) (i : Nat) (h : x.2 ≤ (ls.getD x.1 ln0).done + (ls.getD x.1 ln0).hist.length) : allL ((fenceS ls x).getD i ln0) = allL (ls.getD i ln0) ∧ ((fenceS ls x).getD i ln0).done + ((fenceS ls x).getD i ln0).hist.length = (ls.getD i ln0).done + (ls.getD i ln0).hist.length := by
  unfold fenceS
  split
  · by_cases hx : x.1 < ls.length
    · rw [getD_set _ _ _ _ _ hx]
      split
      · rename_i e; subst e
        refine ⟨allL_persist _ _ (by omega), ?_⟩
        simp only [persistL, List.length_drop]; omega
      · exact ⟨rfl, rfl⟩
    · rw [List.set_eq_of_length_le (by omega)]; exact ⟨rfl, rfl⟩
  · exact ⟨rfl, rfl⟩
/-- Every note of a thread is within what the lines have. -/
def NotesIn (ns : List (Nat × Nat)) (ls : List Ln) : Prop := ∀ x ∈ ns, x.2 ≤ (ls.getD x.1 ln0).done + (ls.getD x.1 ln0).hist.length
theorem fold_all (ns : List (Nat × Nat)) (i : Nat) : ∀ ls : List Ln, NotesIn ns ls → allL ((ns.foldl fenceS ls).getD i ln0) = allL (ls.getD i ln0) ∧ ((ns.foldl fenceS ls).getD i ln0).done + ((ns.foldl fenceS ls).getD i ln0).hist.length = (ls.getD i ln0).done + (ls.getD i ln0).hist.length := by
  induction ns with
  | nil => exact fun _ _ => ⟨rfl, rfl⟩
  | cons x ns ih =>
    intro ls h
    have h0 := h x (List.mem_cons_self ..)
    have h1 := fun j => fenceS_all ls x j h0
    have := ih (fenceS ls x) (fun y hy => by rw [(h1 y.1).2]; exact h y (List.mem_cons_of_mem _ hy))
    exact ⟨this.1.trans (h1 i).1, this.2.trans (h1 i).2⟩
theorem fenceS_done (ls : List Ln) (x : Nat × Nat) (i : Nat) : (ls.getD i ln0).hist = [] → ((fenceS ls x).getD i ln0).hist = [] := by
  intro h
  unfold fenceS
  split
  · by_cases hx : x.1 < ls.length
    · rw [getD_set _ _ _ _ _ hx]
      split
      · rename_i e; subst e; show ((ls.getD x.1 ln0).hist.drop _) = []; rw [h]; simp
      · exact h
    · rw [List.set_eq_of_length_le (by omega)]; exact h
  · exact h
theorem fold_done (ns : List (Nat × Nat)) (i : Nat) : ∀ ls : List Ln, (ls.getD i ln0).hist = [] → ((ns.foldl fenceS ls).getD i ln0).hist = [] := by
  induction ns with
  | nil => exact fun _ h => h
  | cons x ns ih => exact fun ls h => ih _ (fenceS_done ls x i h)
/-- A line whose whole history is noted has none behind the fence. -/
theorem fold_clean (ns : List (Nat × Nat)) (i : Nat) : ∀ ls : List Ln, NotesIn ns ls → i < ls.length → (∃ x ∈ ns, x.1 = i ∧ x.2 = (ls.getD i ln0).done + (ls.getD i ln0).hist.length) → ((ns.foldl fenceS ls).getD i ln0).hist = [] := by
  induction ns with
  | nil => intro ls _ _ ⟨x, hx, _⟩; cases hx
  | cons y ns ih =>
    intro ls hN hi ⟨x, hx, e1, e2⟩
    have h0 := hN y (List.mem_cons_self ..)
    have h1 := fun j => fenceS_all ls y j h0
    rw [List.foldl_cons]
    rcases List.mem_cons.1 hx with rfl | hx
    · refine fold_done ns i _ ?_
      unfold fenceS
      split
      · rename_i hlt
        rw [getD_set _ _ _ _ _ (by omega), if_pos e1.symm]
        show ((ls.getD x.1 ln0).hist.drop _) = []
        rw [e2, e1, Nat.add_sub_cancel_left, List.drop_length]
      · rename_i hlt
        rw [e1, e2] at hlt
        exact List.length_eq_zero_iff.1 (by omega)
    · exact ih (fenceS ls y) (fun z hz => by rw [(h1 z.1).2]; exact hN z (List.mem_cons_of_mem _ hz)) (by rw [fenceS_len]; exact hi) ⟨x, hx, e1, by rw [(h1 i).2]; exact e2⟩
/-- The notes while some lines are being flushed. -/
structure Flushed (R : Dv) (fl : List Nat) : Prop where
  n : NotesIn (notes0 R) R.lines
  f : ∀ l ∈ fl, ∃ x ∈ notes0 R, x.1 = l ∧ x.2 = (R.line l).done + (R.line l).hist.length
theorem Flushed.nil {R : Dv} (h : notes0 R = []) : Flushed R [] := ⟨(by rw [h]; intro x hx; cases hx), fun l hl => (by cases hl)⟩
theorem Flushed.flush {R : Dv} {fl : List Nat} (hR : Live R) (h : Flushed R fl) {off : Nat} (hl : off < 64 * R.lines.length) : Flushed (flushP R 0 off) (fl ++ [off / 64]) := by
  obtain ⟨h1, h2, h3⟩ := flush_rest hR hl
  have hline : ∀ l, (flushP R 0 off).line l = R.line l := fun l => by unfold Dv.line; rw [h1]
  refine ⟨?_, fun l hl2 => ?_⟩
  · rw [h1, h3]
    intro x hx
    unfold noteL at hx
    rcases List.mem_append.1 hx with hx | hx
    · exact h.n x (List.mem_filter.1 hx).1
    · rw [List.mem_singleton.1 hx]; exact Nat.le_refl _
  · rw [h3, hline]
    by_cases e : l = off / 64
    · subst e
      exact ⟨_, List.mem_append_right _ (List.mem_singleton.2 rfl), rfl, rfl⟩
    · rcases List.mem_append.1 hl2 with hm | hm
      · obtain ⟨x, hx, e1, e2⟩ := h.f l hm
        refine ⟨x, List.mem_append_left _ (List.mem_filter.2 ⟨hx, by simp; omega⟩), e1, e2⟩
      · exact absurd (List.mem_singleton.1 hm) e
theorem Flushed.fence {R : Dv} {fl : List Nat} (hR : Live R) (h : Flushed R fl) {l : Nat} (hl : l ∈ fl) (hlt : l < R.lines.length) : ((fenceP R 0).line l).hist = [] := by
  rw [fence_line hR]
  exact fold_clean _ l _ h.n hlt (h.f l hl)
theorem Flushed.val {R : Dv} {fl : List Nat} (hR : Live R) (h : Flushed R fl) (off : Nat) : valueP (fenceP R 0) off = valueP R off := by
  unfold valueP
  rw [fence_line hR, (fold_all _ _ _ h.n).1]
  rfl
/-- Behind the fence a flushed line holds what is current in it. -/
theorem Flushed.inV {R : Dv} {fl : List Nat} (hR : Live R) (h : Flushed R fl) {off : Nat} (hl : off / 64 ∈ fl) (hlt : off / 64 < R.lines.length) : InV (fenceP R 0) off [valueP R off] := by
  intro k hk
  rw [h.fence hR hl hlt] at hk
  have : k = 0 := by simpa using hk
  subst this
  rw [← h.val hR off]
  unfold valueP allL
  rw [h.fence hR hl hlt]
  exact List.mem_singleton.2 rfl
theorem InV.cur {R : Dv} {off : Nat} {V : List Nat} (h : InV R off V) : valueP R off ∈ V := h _ (Nat.le_refl _)
theorem flush_val {R : Dv} (hR : Live R) {off : Nat} (hl : off < 64 * R.lines.length) (o : Nat) : valueP (flushP R 0 off) o = valueP R o := by
  unfold valueP Dv.line; rw [(flush_rest hR hl).1]
/-- A word of a crash image. -/
theorem crash_word {R : Dv} {T : Nat} (hok : R.Ok T) (kf : Nat → Nat) {off : Nat} (hlt : off < 64 * R.lines.length) : (crashW R kf).getD (off / 8) 0 = (wordsL (R.line (off / 64)) (kf (off / 64))).getD (off % 64 / 8) 0 := by
  have hi : off / 64 < R.lines.length := by omega
  have := flat_get Ln.base (crashLs R kf) (crashLs_8 hok kf) (off / 64) (off % 64 / 8) _ (crashLs_get R kf _ hi) (by omega)
  have e : 8 * (off / 64) + off % 64 / 8 = off / 8 := by omega
  rw [e] at this
  unfold crashW
  rw [List.getD, this]
  rfl
theorem InV.crash {R : Dv} {T off : Nat} {V : List Nat} (h : InV R off V) (hok : R.Ok T) (kf : Nat → Nat) (hk : ∀ l, kf l ≤ (R.line l).hist.length) (hlt : off < 64 * R.lines.length) : (crashW R kf).getD (off / 8) 0 ∈ V := by
  rw [crash_word hok kf hlt]; exact h _ (hk _)
end Go.Proofs.Ytjmdibgncaljaaa.Dev
