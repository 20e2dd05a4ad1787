/- What an armed device does: plain laws. What was fenced stays, until a later store: plain laws. -/
import Derived.Test.YtjmdibgncaljaaaG1
import Derived.Test.YtjmdibgncaljaaaD16
/-! What an armed device does: plain laws. -/
namespace Go.Proofs.Ytjmdibgncaljaaa.Dev
open Go.RowKit

/-- The counted instructions and those that are left add up. -/
structure FInv (k : Int) (R : Dv) : Prop where
  l : 0 ≤ R.left
  s : (R.exe : Int) + R.left = k
  o : R.off = true → R.left = 0
theorem FInv.same {k : Int} {R R' : Dv} (h : FInv k R) (h1 : R'.left = R.left) (h2 : R'.exe = R.exe) (h3 : R'.off = R.off) : FInv k R' := ⟨by rw [h1]; exact h.l, by rw [h1, h2]; exact h.s, fun e => by rw [h1]; exact h.o (by rw [← h3]; exact e)⟩
theorem FInv.fail {k : Int} {R : Dv} (h : FInv k R) (t e : Nat) : FInv k (failP R t e) := by
  obtain ⟨_, _, a, b, c⟩ := failP_lines R t e
  exact h.same a c b
theorem FInv.may {k : Int} {R : Dv} (h : FInv k R) (t : Nat) (b : Bool) : FInv k (mayP R t b) := by
  unfold mayP
  split
  · exact h.fail _ _
  split
  · exact h
  · exact h.fail _ _
theorem FInv.count {k : Int} {R : Dv} (h : FInv k R) (t : Nat) (b : Bool) : FInv k (countP R t b) := by
  unfold countP
  split
  · exact h.fail _ _
  split
  · split
    · rename_i h0
      exact FInv.fail (R := { R with off := true }) ⟨h.l, h.s, fun _ => h0⟩ _ _
    · rename_i ho _ h0
      have h1 := h.l
      have h2 := h.s
      have h3 : 0 < R.left := by omega
      refine ⟨?_, ?_, fun e => absurd e (by simpa using ho)⟩
      · show 0 ≤ ite _ _ _; rw [if_pos h3]; omega
      · show ((R.exe + 1 : Nat) : Int) + ite _ _ _ = k; rw [if_pos h3]; omega
  · exact h.fail _ _
theorem FInv.do {k : Int} {R : Dv} (h : FInv k R) (x : Evt) (hx : x.kind % 7 ≠ 6) : FInv k (doP R x) := by
  have h7 : x.kind % 7 = 0 ∨ x.kind % 7 = 1 ∨ x.kind % 7 = 2 ∨ x.kind % 7 = 3 ∨ x.kind % 7 = 4 ∨ x.kind % 7 = 5 := by omega
  rcases h7 with h7 | h7 | h7 | h7 | h7 | h7
  · rw [show doP R x = mayP R x.t (R.isB x.off) from by simp [doP, h7]]; exact h.may _ _
  · rw [show doP R x = storeP R x.t x.off x.val from by simp [doP, h7]]; unfold storeP; split
    · exact (h.count _ _).same rfl rfl rfl
    · exact h.count _ _
  · rw [show doP R x = casP R x.t x.off x.old x.val from by simp [doP, h7]]; unfold casP; split
    · exact (h.count _ _).same rfl rfl rfl
    · exact h.count _ _
  · rw [show doP R x = flushP R x.t x.off from by simp [doP, h7]]; unfold flushP; split
    · exact (h.count _ _).same rfl rfl rfl
    · exact h.count _ _
  · rw [show doP R x = fenceP R x.t from by simp [doP, h7]]; unfold fenceP; split
    · exact (h.count _ _).same rfl rfl rfl
    · exact h.count _ _
  · rw [show doP R x = backP R x.io x.n from by simp [doP, h7]]; unfold backP; split
    · exact h.same rfl rfl rfl
    · exact h
theorem FInv.arm {R : Dv} (ho : R.off = false) (he : R.exe = 0) {k : Int} (hk : 0 ≤ k) : FInv k (armP R k) := by
  unfold armP
  rw [if_neg (by simp [ho])]
  refine ⟨?_, ?_, fun e => absurd e (by simp [ho])⟩
  · show 0 ≤ max k (-1); omega
  · show (R.exe : Int) + max k (-1) = k; rw [he]; omega
/-- Events but for armings. -/
def doF (R : Dv) (x : Evt) : Dv := if x.kind % 7 = 6 then R else doP R x
def playF (R : Dv) (xs : List Evt) : Dv := xs.foldl doF R
theorem playF_take (R : Dv) (xs : List Evt) (k : Nat) (d : Evt) (h : k < xs.length) : playF R (xs.take (k + 1)) = doF (playF R (xs.take k)) (xs.getD k d) := by
  unfold playF; rw [take_getD xs k d h, List.foldl_append]; rfl
theorem FInv.play {k : Int} {R : Dv} (h : FInv k R) (xs : List Evt) : FInv k (playF R xs) := by
  induction xs generalizing R with
  | nil => exact h
  | cons x xs ih =>
    refine ih (R := doF R x) ?_
    unfold doF
    split
    · exact h
    · exact h.do x (by assumption)

/-- Without power nothing changes. -/
structure Dead (R R' : Dv) : Prop where
  o : R'.off = true
  x : R'.exe = R.exe
  l : R'.lines = R.lines
theorem Dead.refl {R : Dv} (h : R.off = true) : Dead R R := ⟨h, rfl, rfl⟩
theorem Dead.trans {R R' R'' : Dv} (h : Dead R R') (h' : Dead R' R'') : Dead R R'' := ⟨h'.o, h'.x.trans h.x, h'.l.trans h.l⟩
theorem Dead.cur {R R' : Dv} (h : Dead R R') : R'.curW = R.curW := by unfold Dv.curW; rw [h.l]
theorem Dead.per {R R' : Dv} (h : Dead R R') : R'.perW = R.perW := by unfold Dv.perW; rw [h.l]
theorem fail_dead {R : Dv} (h : R.off = true) (t e : Nat) : Dead R (failP R t e) := by
  obtain ⟨a, _, _, b, c⟩ := failP_lines R t e
  exact ⟨b.trans h, c, a⟩
theorem fail_err (R : Dv) (t e : Nat) (he : e ≠ 0) (ht : t < R.errs.length) : (failP R t e).errs.getD t 0 ≠ 0 := by
  unfold failP
  split
  · show (R.errs.set t e).getD t 0 ≠ 0
    rw [getD_set _ _ _ _ _ ht, if_pos rfl]; exact he
  · assumption
theorem do_dead {R : Dv} (h : R.off = true) (hl : R.errs.length = 8) (x : Evt) : Dead R (doP R x) ∧ (x.kind % 7 < 5 → (doP R x).errs.getD x.t 0 ≠ 0) := by
  have ht : x.t < R.errs.length := by rw [hl]; exact x.t_lt
  have hc : ∀ b, countP R x.t b = failP R x.t 3 := fun b => by unfold countP; rw [if_pos h]
  have hb : ∀ b, countB R b = false := fun b => by simp [countB, h]
  have key : Dead R (failP R x.t 3) ∧ (x.kind % 7 < 5 → (failP R x.t 3).errs.getD x.t 0 ≠ 0) := ⟨fail_dead h _ _, fun _ => fail_err R x.t 3 (by omega) ht⟩
  have h7 : x.kind % 7 = 0 ∨ x.kind % 7 = 1 ∨ x.kind % 7 = 2 ∨ x.kind % 7 = 3 ∨ x.kind % 7 = 4 ∨ x.kind % 7 = 5 ∨ x.kind % 7 = 6 := by omega
  rcases h7 with h7 | h7 | h7 | h7 | h7 | h7 | h7
  · rw [show doP R x = mayP R x.t (R.isB x.off) from by simp [doP, h7], show mayP R x.t (R.isB x.off) = failP R x.t 3 from by unfold mayP; rw [if_pos h]]; exact key
  · rw [show doP R x = storeP R x.t x.off x.val from by simp [doP, h7]]; unfold storeP; rw [if_neg (by rw [hb]; simp), hc]; exact key
  · rw [show doP R x = casP R x.t x.off x.old x.val from by simp [doP, h7]]; unfold casP casB; rw [if_neg (by rw [hb]; simp), hc]; exact key
  · rw [show doP R x = flushP R x.t x.off from by simp [doP, h7]]; unfold flushP; rw [if_neg (by rw [hb]; simp), hc]; exact key
  · rw [show doP R x = fenceP R x.t from by simp [doP, h7]]; unfold fenceP; rw [if_neg (by rw [hb]; simp), hc]; exact key
  · rw [show doP R x = backP R x.io x.n from by simp [doP, h7]]; unfold backP backB; rw [if_neg (by simp [h])]; exact ⟨Dead.refl h, fun e => by omega⟩
  · rw [show doP R x = armP R x.n from by simp [doP, h7]]; unfold armP; rw [if_pos h]; exact ⟨Dead.refl h, fun e => by omega⟩
end Go.Proofs.Ytjmdibgncaljaaa.Dev

/-! What was fenced stays, until a later store: plain laws. -/
namespace Go.Proofs.Ytjmdibgncaljaaa.Dev
open Go.RowKit

/-- Whatever first stores of the line are persisted: its word j is one of V. -/
def InL (l : Ln) (j : Nat) (V : List Nat) : Prop := ∀ k, k ≤ l.hist.length → (wordsL l k).getD j 0 ∈ V
def InV (R : Dv) (off : Nat) (V : List Nat) : Prop := InL (R.line (off / 64)) (off % 64 / 8) V
theorem InL.mono {l : Ln} {j : Nat} {V V' : List Nat} (h : InL l j V) (hs : ∀ x ∈ V, x ∈ V') : InL l j V' := fun k hk => hs _ (h k hk)
theorem words_persist (l : Ln) (k k' : Nat) : wordsL (persistL l k) k' = wordsL l (k + k') := by
  unfold persistL
  show ((l.hist.drop k).take k').foldl setW (wordsL l k) = _
  unfold wordsL
  rw [← List.foldl_append, ← List.take_add]
theorem words_over (l : Ln) (k : Nat) (h : l.hist.length ≤ k) : wordsL l k = wordsL l l.hist.length := by
  unfold wordsL; rw [List.take_of_length_le h, List.take_length]
theorem InL.persist {l : Ln} {j : Nat} {V : List Nat} (h : InL l j V) (k : Nat) : InL (persistL l k) j V := by
  intro k' hk'
  rw [words_persist]
  rcases Nat.le_total (k + k') l.hist.length with h1 | h1
  · exact h _ h1
  · rw [words_over l _ h1]; exact h _ (Nat.le_refl _)
theorem words_put (l : Ln) (p : Nat × Nat) (k : Nat) (h : k ≤ l.hist.length) : wordsL (putL l p) k = wordsL l k := by
  unfold wordsL putL
  show ((l.hist ++ [p]).take k).foldl setW l.base = _
  rw [List.take_append_of_le_length h]
theorem InL.put {l : Ln} {j : Nat} {V : List Nat} (h : InL l j V) (p : Nat × Nat) : InL (putL l p) j (V ++ [(allL (putL l p)).getD j 0]) := by
  intro k hk
  have hl : (putL l p).hist.length = l.hist.length + 1 := by simp [putL]
  rw [hl] at hk
  rcases Nat.lt_or_ge k (l.hist.length + 1) with h1 | h1
  · rw [words_put l p k (by omega)]; exact List.mem_append_left _ (h k (by omega))
  · obtain rfl : k = l.hist.length + 1 := by omega
    rw [← hl]; exact List.mem_append_right _ (List.mem_singleton.2 rfl)
theorem fenceS_get {ls : List Ln} {x : Nat × Nat} {l j : Nat} {V : List Nat} (h : InL (ls.getD l ln0) j V) : InL ((fenceS ls x).getD l ln0) j V := by
  unfold fenceS
  split
  · by_cases hx : x.1 < ls.length
    · rw [getD_set _ _ _ _ _ hx]
      split
      · subst_vars; exact h.persist _
      · exact h
    · rw [List.set_eq_of_length_le (by omega)]; exact h
  · exact h
theorem fold_get (ns : List (Nat × Nat)) {l j : Nat} {V : List Nat} : ∀ ls : List Ln, InL (ls.getD l ln0) j V → InL ((ns.foldl fenceS ls).getD l ln0) j V := by
  induction ns with
  | nil => exact fun _ h => h
  | cons x ns ih => exact fun ls h => ih _ (fenceS_get h)
theorem fenceS_len (ls : List Ln) (x : Nat × Nat) : (fenceS ls x).length = ls.length := by
  unfold fenceS; split
  · simp
  · rfl
theorem fold_len (ns : List (Nat × Nat)) : ∀ ls : List Ln, (ns.foldl fenceS ls).length = ls.length := by
  induction ns with
  | nil => exact fun _ => rfl
  | cons x ns ih => exact fun ls => (ih _).trans (fenceS_len ls x)
theorem fenceS_other {ls : List Ln} {x : Nat × Nat} {l : Nat} (h : x.1 ≠ l) : (fenceS ls x).getD l ln0 = ls.getD l ln0 := by
  unfold fenceS
  split
  · by_cases hx : x.1 < ls.length
    · rw [getD_set _ _ _ _ _ hx, if_neg (Ne.symm h)]
    · rw [List.set_eq_of_length_le (by omega)]
  · rfl
theorem fold_other (ns : List (Nat × Nat)) {l : Nat} : (∀ x ∈ ns, x.1 ≠ l) → ∀ ls : List Ln, (ns.foldl fenceS ls).getD l ln0 = ls.getD l ln0 := by
  induction ns with
  | nil => exact fun _ _ => rfl
  | cons x ns ih => exact fun h ls => (ih (fun y hy => h y (List.mem_cons_of_mem _ hy)) _).trans (fenceS_other (h x (List.mem_cons_self ..)))
/-- One more event: the word that is current after it is the only new value. -/
theorem InV.do {R : Dv} {off : Nat} {V : List Nat} (h : InV R off V) (x : Evt) : InV (doP R x) off (V ++ [valueP (doP R x) off]) := by
  have up : ∀ R', (R'.line (off / 64)) = R.line (off / 64) → InV R' off (V ++ [valueP R' off]) := fun R' e => by
    unfold InV; rw [e]; exact InL.mono h (fun _ hx => List.mem_append_left _ hx)
  have hcl : ∀ b i, (countP R x.t b).line i = R.line i := fun b i => countP_line R x.t b i
  have hput : ∀ b o v, o < 64 * R.lines.length → InV (putP (countP R x.t b) o v) off (V ++ [valueP (putP (countP R x.t b) o v) off]) := fun b o v ho => by
    have hlen : (countP R x.t b).lines.length = R.lines.length := by rw [(countP_lines R x.t b).1]
    have hl : (putP (countP R x.t b) o v).line (off / 64) = if off / 64 = o / 64 then putL (R.line (o / 64)) (o, v) else R.line (off / 64) := by
      unfold putP
      rw [setLine_line _ (by omega), hcl, hcl]
    by_cases e : off / 64 = o / 64
    · rw [if_pos e, ← e] at hl
      unfold InV valueP
      rw [hl]
      exact InL.put h _
    · rw [if_neg e] at hl
      exact up _ hl
  have h7 : x.kind % 7 = 0 ∨ x.kind % 7 = 1 ∨ x.kind % 7 = 2 ∨ x.kind % 7 = 3 ∨ x.kind % 7 = 4 ∨ x.kind % 7 = 5 ∨ x.kind % 7 = 6 := by omega
  have hin : ∀ o, countB R (R.isB o) = true → o < 64 * R.lines.length := fun o hc => by
    simp only [countB, Bool.and_eq_true, Dv.isB, decide_eq_true_eq] at hc
    exact hc.1.2.2
  rcases h7 with h7 | h7 | h7 | h7 | h7 | h7 | h7
  · rw [show doP R x = mayP R x.t (R.isB x.off) from by simp [doP, h7]]
    exact up _ (by unfold Dv.line; rw [mayP_lines])
  · rw [show doP R x = storeP R x.t x.off x.val from by simp [doP, h7]]
    unfold storeP; split
    · exact hput _ _ _ (hin _ (by assumption))
    · exact up _ (hcl _ _)
  · rw [show doP R x = casP R x.t x.off x.old x.val from by simp [doP, h7]]
    unfold casP; split
    · rename_i hc
      simp only [casB, Bool.and_eq_true] at hc
      exact hput _ _ _ (hin _ hc.1)
    · exact up _ (hcl _ _)
  · rw [show doP R x = flushP R x.t x.off from by simp [doP, h7]]
    unfold flushP; split
    · exact up _ (hcl _ _)
    · exact up _ (hcl _ _)
  · rw [show doP R x = fenceP R x.t from by simp [doP, h7]]
    unfold fenceP; split
    · refine InL.mono ?_ (fun _ hx => List.mem_append_left _ hx)
      unfold fencedP Dv.line
      exact fold_get _ _ (by have := hcl true (off / 64); unfold Dv.line at this; show InL ((countP R x.t true).lines.getD (off / 64) ln0) _ _; rw [this]; exact h)
    · exact up _ (hcl _ _)
  · rw [show doP R x = backP R x.io x.n from by simp [doP, h7]]
    unfold backP; split
    · rename_i hb
      simp only [backB, Bool.and_eq_true, decide_eq_true_eq] at hb
      refine InL.mono ?_ (fun _ hx => List.mem_append_left _ hx)
      rw [setLine_line _ (by omega)]
      split
      · rename_i e; rw [← e]; exact InL.persist h _
      · exact h
    · exact up _ rfl
  · rw [show doP R x = armP R x.n from by simp [doP, h7]]
    unfold armP; split
    · exact up _ rfl
    · exact up _ rfl
theorem countP_off {R : Dv} (t : Nat) (h : countB R true = false) : (countP R t true).off = true := by
  unfold countP
  split
  · rename_i ho; rw [(failP_lines _ _ _).2.2.2.1]; exact ho
  · rename_i ho
    rw [if_pos rfl]
    have h0 : R.left = 0 := by
      simp only [countB, Bool.and_true] at h
      have : R.off = false := by simpa using ho
      rw [this] at h
      simpa using h
    rw [if_pos h0, (failP_lines _ _ _).2.2.2.1]
theorem fence_off {R : Dv} (t : Nat) (h : R.off = true) : (fenceP R t).off = true := by
  have hb : countB R true = false := by simp [countB, h]
  unfold fenceP; rw [if_neg (by rw [hb]; simp)]; exact countP_off t hb
theorem flush_off {R : Dv} (t off : Nat) (h : R.off = true) : (flushP R t off).off = true := by
  have hb : ∀ b, countB R b = false := fun b => by simp [countB, h]
  unfold flushP; rw [if_neg (by rw [hb]; simp)]
  unfold countP; rw [if_pos h, (failP_lines _ _ _).2.2.2.1]; exact h
/-- Stored, flushed and fenced: if the power is still on, the line has no history, and this word. -/
theorem fence_start {R : Dv} {T : Nat} (hok : R.Ok T) {off v t : Nat} (ht : t < 8) (h8 : off % 8 = 0) (hlt : off < 64 * R.lines.length) (hon : (fenceP (flushP (storeP R t off v) t off) t).off = false) :
    InV (fenceP (flushP (storeP R t off v) t off) t) off [v] := by
  have hisB : R.isB off = true := by simp [Dv.isB, h8, hlt]
  have c1 : countB R true = true := by
    rcases hc : countB R true with _ | _
    · exfalso
      have e : storeP R t off v = countP R t true := by unfold storeP; rw [hisB, if_neg (by rw [hc]; simp)]
      rw [e, fence_off t (flush_off t off (countP_off t hc))] at hon
      cases hon
    · rfl
  have e1 : storeP R t off v = putP (countP R t true) off v := by unfold storeP; rw [hisB, if_pos c1]
  rw [e1] at hon ⊢
  generalize hR1 : putP (countP R t true) off v = R1 at *
  have hlen0 : (countP R t true).lines.length = R.lines.length := by rw [(countP_lines R t true).1]
  have hlen1 : R1.lines.length = R.lines.length := by rw [← hR1]; unfold putP; rw [setLine_len, hlen0]
  have hnote1 : R1.notes = R.notes := by rw [← hR1]; exact (countP_lines R t true).2
  have hline1 : R1.line (off / 64) = putL (R.line (off / 64)) (off, v) := by
    rw [← hR1]; unfold putP; rw [setLine_line _ (by omega), if_pos rfl, countP_line]
  have hin1 : R1.inB off = true := by simp [Dv.inB, hlen1, hlt]
  have c2 : countB R1 true = true := by
    rcases hc : countB R1 true with _ | _
    · exfalso
      have e : flushP R1 t off = countP R1 t true := by unfold flushP; rw [hin1, if_neg (by rw [hc]; simp)]
      rw [e, fence_off t (countP_off t hc)] at hon
      cases hon
    · rfl
  have e2 : flushP R1 t off = notedP (countP R1 t true) t (off / 64) := by unfold flushP; rw [hin1, if_pos c2]
  rw [e2] at hon ⊢
  generalize hR2 : notedP (countP R1 t true) t (off / 64) = R2 at *
  have hlines2 : R2.lines = R1.lines := by rw [← hR2]; exact (countP_lines R1 t true).1
  have hnote2 : R2.notes.getD t [] = noteL (R.notes.getD t []) (off / 64) ((R1.line (off / 64)).done + (R1.line (off / 64)).hist.length) := by
    rw [← hR2]
    show ((countP R1 t true).notes.set t (noteL ((countP R1 t true).notes.getD t []) (off / 64) (((countP R1 t true).line (off / 64)).done + ((countP R1 t true).line (off / 64)).hist.length))).getD t [] = _
    rw [(countP_lines R1 t true).2, hnote1, countP_line, getD_set _ _ _ _ _ (by rw [hok.nl]; exact ht), if_pos rfl]
  have c3 : countB R2 true = true := by
    rcases hc : countB R2 true with _ | _
    · exfalso
      have e : fenceP R2 t = countP R2 t true := by unfold fenceP; rw [if_neg (by rw [hc]; simp)]
      rw [e, countP_off t hc] at hon
      cases hon
    · rfl
  have e3 : fenceP R2 t = fencedP (countP R2 t true) t := by unfold fenceP; rw [if_pos c3]
  rw [e3]
  have hfin : (fencedP (countP R2 t true) t).line (off / 64) = persistL (R1.line (off / 64)) (R1.line (off / 64)).hist.length := by
    unfold fencedP Dv.line
    show (((countP R2 t true).notes.getD t []).foldl fenceS (countP R2 t true).lines).getD (off / 64) ln0 = _
    rw [(countP_lines R2 t true).1, (countP_lines R2 t true).2, hnote2, hlines2]
    unfold noteL
    rw [List.foldl_append]
    have hk : ((((R.notes.getD t []).filter (fun x => decide (x.1 ≠ off / 64))).foldl fenceS R1.lines)).getD (off / 64) ln0 = R1.lines.getD (off / 64) ln0 := fold_other _ (fun x hx => by rw [List.mem_filter] at hx; simpa using hx.2) _
    have hkl := fold_len ((R.notes.getD t []).filter (fun x => decide (x.1 ≠ off / 64))) R1.lines
    generalize ((R.notes.getD t []).filter (fun x => decide (x.1 ≠ off / 64))).foldl fenceS R1.lines = ls at *
    have hl1 : R1.lines.getD (off / 64) ln0 = R1.line (off / 64) := rfl
    rw [hl1] at hk
    show (fenceS ls (off / 64, (R1.line (off / 64)).done + (R1.line (off / 64)).hist.length)).getD (off / 64) ln0 = _
    have hpos : 0 < (R1.line (off / 64)).hist.length := by rw [hline1]; simp [putL]
    unfold fenceS
    rw [if_pos (by show (ls.getD (off / 64) ln0).done < _; rw [hk]; omega), getD_set _ _ _ _ _ (by show off / 64 < ls.length; rw [hkl]; omega), if_pos rfl]
    show persistL (ls.getD (off / 64) ln0) ((R1.line (off / 64)).done + (R1.line (off / 64)).hist.length - (ls.getD (off / 64) ln0).done) = _
    rw [hk, Nat.add_sub_cancel_left]
    rfl
  intro k hk
  rw [hfin] at hk ⊢
  have hk0 : k = 0 := by
    have : (persistL (R1.line (off / 64)) (R1.line (off / 64)).hist.length).hist.length = 0 := by simp [persistL]
    omega
  subst hk0
  rw [words_persist, Nat.add_zero]
  show (allL (R1.line (off / 64))).getD _ 0 ∈ _
  rw [hline1, allL_put]
  unfold setW
  rw [getD_set _ _ _ _ _ (by rw [show (allL (R.line (off / 64))).length = 8 from by unfold allL; rw [wordsL_len]; exact (hok.ln _ (by omega)).b]; show off % 64 / 8 < 8; omega), if_pos rfl]
  exact List.mem_singleton.2 rfl
theorem image_word {R : Dv} {T : Nat} (hok : R.Ok T) (ch : List Nat) {off : Nat} (hlt : off < 64 * R.lines.length) : (imageW R ch).getD (off / 8) 0 = (wordsL (R.line (off / 64)) (chK R ch (off / 64))).getD (off % 64 / 8) 0 := by
  have hi : off / 64 < R.lines.length := by omega
  have := flat_get Ln.base (crashLs R (chK R ch)) (crashLs_8 hok _) (off / 64) (off % 64 / 8) _ (crashLs_get R _ _ hi) (by omega)
  have e : 8 * (off / 64) + off % 64 / 8 = off / 8 := by omega
  rw [e] at this
  unfold imageW crashW
  rw [List.getD, this]
  rfl
theorem InV.image {R : Dv} {T off : Nat} {V : List Nat} (h : InV R off V) (hok : R.Ok T) (ch : List Nat) (hlt : off < 64 * R.lines.length) : (imageW R ch).getD (off / 8) 0 ∈ V := by
  rw [image_word hok ch hlt]
  exact h _ (chK_le R ch _)
theorem cur_word {R : Dv} {T off : Nat} (hok : R.Ok T) (hlt : off < 64 * R.lines.length) : R.curW.getD (off / 8) 0 = valueP R off := getD_of 0 (cur_at hok hlt)
theorem countP_len (R : Dv) (t : Nat) (b : Bool) : (countP R t b).lines.length = R.lines.length := by rw [(countP_lines R t b).1]
theorem putP_len (R : Dv) (o v : Nat) : (putP R o v).lines.length = R.lines.length := by unfold putP; rw [setLine_len]
theorem storeP_len (R : Dv) (t o v : Nat) : (storeP R t o v).lines.length = R.lines.length := by
  unfold storeP; split
  · rw [putP_len, countP_len]
  · rw [countP_len]
theorem casP_len (R : Dv) (t o d v : Nat) : (casP R t o d v).lines.length = R.lines.length := by
  unfold casP; split
  · rw [putP_len, countP_len]
  · rw [countP_len]
theorem flushP_len (R : Dv) (t o : Nat) : (flushP R t o).lines.length = R.lines.length := by
  unfold flushP; split
  · exact countP_len _ _ _
  · exact countP_len _ _ _
theorem fenceP_len (R : Dv) (t : Nat) : (fenceP R t).lines.length = R.lines.length := by
  unfold fenceP; split
  · unfold fencedP; exact (fold_len _ _).trans (countP_len _ _ _)
  · exact countP_len _ _ _
theorem backP_len (R : Dv) (l k : Int) : (backP R l k).lines.length = R.lines.length := by
  unfold backP; split
  · rw [setLine_len]
  · rfl
theorem armP_len (R : Dv) (n : Int) : (armP R n).lines.length = R.lines.length := by unfold armP; split <;> rfl
theorem doP_len (R : Dv) (x : Evt) : (doP R x).lines.length = R.lines.length := by
  unfold doP
  split
  · rw [mayP_lines]
  split
  · exact storeP_len _ _ _ _
  split
  · exact casP_len _ _ _ _ _
  split
  · exact flushP_len _ _ _
  split
  · exact fenceP_len _ _
  split
  · exact backP_len _ _ _
  · exact armP_len _ _
end Go.Proofs.Ytjmdibgncaljaaa.Dev
