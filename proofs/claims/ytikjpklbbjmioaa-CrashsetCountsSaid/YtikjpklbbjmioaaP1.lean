/- What an armed device does: plain laws. -/
import Derived.Test.YtikjpklbbjmioaaG1
namespace Go.Proofs.Ytikjpklbbjmioaa
open Go.RowKit

/-- The counted instructions and those that are left add up. -/
structure FInv (k : Int) (R : Dv) : Prop where
  l : 0 ≤ R.left
  s : (R.exe : Int) + R.left = k
  o : R.off = true → R.left = 0
theorem FInv.same {k : Int} {R R' : Dv} (h : FInv k R) (h1 : R'.left = R.left) (h2 : R'.exe = R.exe) (h3 : R'.off = R.off) : FInv k R' := ⟨by rw [h1]; exact h.l, by rw [h1, h2]; exact h.s, fun e => by rw [h1]; exact h.o (by rw [← h3]; exact e)⟩
theorem FInv.fail {k : Int} {R : Dv} (h : FInv k R) (t e : Nat) : FInv k (failP R t e) := by
  obtain ⟨_, _, a, b, c⟩ := failP_lines R t e
  exact h.same a c b
theorem FInv.may {k : Int} {R : Dv} (h : FInv k R) (t : Nat) (b : Bool) : FInv k (mayP R t b) := by
  unfold mayP
  split
  · exact h.fail _ _
  split
  · exact h
  · exact h.fail _ _
theorem FInv.count {k : Int} {R : Dv} (h : FInv k R) (t : Nat) (b : Bool) : FInv k (countP R t b) := by
  unfold countP
  split
  · exact h.fail _ _
  split
  · split
    · rename_i h0
      exact FInv.fail (R := { R with off := true }) ⟨h.l, h.s, fun _ => h0⟩ _ _
    · rename_i ho _ h0
      have h1 := h.l
      have h2 := h.s
      have h3 : 0 < R.left := by omega
      refine ⟨?_, ?_, fun e => absurd e (by simpa using ho)⟩
      · show 0 ≤ ite _ _ _; rw [if_pos h3]; omega
      · show ((R.exe + 1 : Nat) : Int) + ite _ _ _ = k; rw [if_pos h3]; omega
  · exact h.fail _ _
theorem FInv.do {k : Int} {R : Dv} (h : FInv k R) (x : Evt) (hx : x.kind % 7 ≠ 6) : FInv k (doP R x) := by
  have h7 : x.kind % 7 = 0 ∨ x.kind % 7 = 1 ∨ x.kind % 7 = 2 ∨ x.kind % 7 = 3 ∨ x.kind % 7 = 4 ∨ x.kind % 7 = 5 := by omega
  rcases h7 with h7 | h7 | h7 | h7 | h7 | h7
  · rw [show doP R x = mayP R x.t (R.isB x.off) from by simp [doP, h7]]; exact h.may _ _
  · rw [show doP R x = storeP R x.t x.off x.val from by simp [doP, h7]]; unfold storeP; split
    · exact (h.count _ _).same rfl rfl rfl
    · exact h.count _ _
  · rw [show doP R x = casP R x.t x.off x.old x.val from by simp [doP, h7]]; unfold casP; split
    · exact (h.count _ _).same rfl rfl rfl
    · exact h.count _ _
  · rw [show doP R x = flushP R x.t x.off from by simp [doP, h7]]; unfold flushP; split
    · exact (h.count _ _).same rfl rfl rfl
    · exact h.count _ _
  · rw [show doP R x = fenceP R x.t from by simp [doP, h7]]; unfold fenceP; split
    · exact (h.count _ _).same rfl rfl rfl
    · exact h.count _ _
  · rw [show doP R x = backP R x.io x.n from by simp [doP, h7]]; unfold backP; split
    · exact h.same rfl rfl rfl
    · exact h
theorem FInv.arm {R : Dv} (ho : R.off = false) (he : R.exe = 0) {k : Int} (hk : 0 ≤ k) : FInv k (armP R k) := by
  unfold armP
  rw [if_neg (by simp [ho])]
  refine ⟨?_, ?_, fun e => absurd e (by simp [ho])⟩
  · show 0 ≤ max k (-1); omega
  · show (R.exe : Int) + max k (-1) = k; rw [he]; omega
/-- Events but for armings. -/
def doF (R : Dv) (x : Evt) : Dv := if x.kind % 7 = 6 then R else doP R x
def playF (R : Dv) (xs : List Evt) : Dv := xs.foldl doF R
theorem playF_take (R : Dv) (xs : List Evt) (k : Nat) (d : Evt) (h : k < xs.length) : playF R (xs.take (k + 1)) = doF (playF R (xs.take k)) (xs.getD k d) := by
  unfold playF; rw [take_getD xs k d h, List.foldl_append]; rfl
theorem FInv.play {k : Int} {R : Dv} (h : FInv k R) (xs : List Evt) : FInv k (playF R xs) := by
  induction xs generalizing R with
  | nil => exact h
  | cons x xs ih =>
    refine ih (R := doF R x) ?_
    unfold doF
    split
    · exact h
    · exact h.do x (by assumption)

/-- Without power nothing changes. -/
structure Dead (R R' : Dv) : Prop where
  o : R'.off = true
  x : R'.exe = R.exe
  l : R'.lines = R.lines
theorem Dead.refl {R : Dv} (h : R.off = true) : Dead R R := ⟨h, rfl, rfl⟩
theorem Dead.trans {R R' R'' : Dv} (h : Dead R R') (h' : Dead R' R'') : Dead R R'' := ⟨h'.o, h'.x.trans h.x, h'.l.trans h.l⟩
theorem Dead.cur {R R' : Dv} (h : Dead R R') : R'.curW = R.curW := by unfold Dv.curW; rw [h.l]
theorem Dead.per {R R' : Dv} (h : Dead R R') : R'.perW = R.perW := by unfold Dv.perW; rw [h.l]
theorem fail_dead {R : Dv} (h : R.off = true) (t e : Nat) : Dead R (failP R t e) := by
  obtain ⟨a, _, _, b, c⟩ := failP_lines R t e
  exact ⟨b.trans h, c, a⟩
theorem fail_err (R : Dv) (t e : Nat) (he : e ≠ 0) (ht : t < R.errs.length) : (failP R t e).errs.getD t 0 ≠ 0 := by
  unfold failP
  split
  · show (R.errs.set t e).getD t 0 ≠ 0
    rw [getD_set _ _ _ _ _ ht, if_pos rfl]; exact he
  · assumption
theorem do_dead {R : Dv} (h : R.off = true) (hl : R.errs.length = 8) (x : Evt) : Dead R (doP R x) ∧ (x.kind % 7 < 5 → (doP R x).errs.getD x.t 0 ≠ 0) := by
  have ht : x.t < R.errs.length := by rw [hl]; exact x.t_lt
  have hc : ∀ b, countP R x.t b = failP R x.t 3 := fun b => by unfold countP; rw [if_pos h]
  have hb : ∀ b, countB R b = false := fun b => by simp [countB, h]
  have key : Dead R (failP R x.t 3) ∧ (x.kind % 7 < 5 → (failP R x.t 3).errs.getD x.t 0 ≠ 0) := ⟨fail_dead h _ _, fun _ => fail_err R x.t 3 (by omega) ht⟩
  have h7 : x.kind % 7 = 0 ∨ x.kind % 7 = 1 ∨ x.kind % 7 = 2 ∨ x.kind % 7 = 3 ∨ x.kind % 7 = 4 ∨ x.kind % 7 = 5 ∨ x.kind % 7 = 6 := by omega
  rcases h7 with h7 | h7 | h7 | h7 | h7 | h7 | h7
  · rw [show doP R x = mayP R x.t (R.isB x.off) from by simp [doP, h7], show mayP R x.t (R.isB x.off) = failP R x.t 3 from by unfold mayP; rw [if_pos h]]; exact key
  · rw [show doP R x = storeP R x.t x.off x.val from by simp [doP, h7]]; unfold storeP; rw [if_neg (by rw [hb]; simp), hc]; exact key
  · rw [show doP R x = casP R x.t x.off x.old x.val from by simp [doP, h7]]; unfold casP casB; rw [if_neg (by rw [hb]; simp), hc]; exact key
  · rw [show doP R x = flushP R x.t x.off from by simp [doP, h7]]; unfold flushP; rw [if_neg (by rw [hb]; simp), hc]; exact key
  · rw [show doP R x = fenceP R x.t from by simp [doP, h7]]; unfold fenceP; rw [if_neg (by rw [hb]; simp), hc]; exact key
  · rw [show doP R x = backP R x.io x.n from by simp [doP, h7]]; unfold backP backB; rw [if_neg (by simp [h])]; exact ⟨Dead.refl h, fun e => by omega⟩
  · rw [show doP R x = armP R x.n from by simp [doP, h7]]; unfold armP; rw [if_pos h]; exact ⟨Dead.refl h, fun e => by omega⟩
end Go.Proofs.Ytikjpklbbjmioaa
