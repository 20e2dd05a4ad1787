/- All histories written back. Plain laws. -/
import Derived.Test.YtkmhanjddkplbaaP2
import Derived.Test.YtkmhanjddkplbaaE9
namespace Go.Proofs.Ytkmhanjddkplbaa
open Go.RowKit

/-- The first i lines' histories are written back. -/
def backAll (R : Dv) (i : Nat) : Dv := (List.range i).foldl (fun (R : Dv) (j : Nat) => backP R (j : Int) (((R.line j).hist.length : Nat) : Int)) R
theorem backAll_zero (R : Dv) : backAll R 0 = R := rfl
theorem backAll_succ (R : Dv) (i : Nat) : backAll R (i + 1) = backP (backAll R i) (i : Int) ((((backAll R i).line i).hist.length : Nat) : Int) := by
  unfold backAll; rw [List.range_succ, List.foldl_append]; rfl
theorem backAll_len (R : Dv) : ∀ i, (backAll R i).lines.length = R.lines.length
  | 0 => rfl
  | i + 1 => by rw [backAll_succ, backP_len, backAll_len R i]
theorem backP_off (R : Dv) (l k : Int) : (backP R l k).off = R.off := by unfold backP; split <;> rfl
theorem backAll_off (R : Dv) : ∀ i, (backAll R i).off = R.off
  | 0 => rfl
  | i + 1 => by rw [backAll_succ, backP_off, backAll_off R i]
theorem backAll_ok {R : Dv} {T : Nat} (hok : R.Ok T) : ∀ i, (backAll R i).Ok T
  | 0 => hok
  | i + 1 => by rw [backAll_succ]; exact backP_ok (backAll_ok hok i) _ _
theorem backAll_line {R : Dv} (ho : R.off = false) : ∀ i, i ≤ R.lines.length → ∀ j, (backAll R i).line j = if j < i then persistL (R.line j) (R.line j).hist.length else R.line j
  | 0, _, j => by rw [backAll_zero, if_neg (by omega)]
  | i + 1, hi, j => by
    have ih := backAll_line ho i (by omega)
    have hii := ih i
    rw [if_neg (by omega)] at hii
    have hb : backB (backAll R i) (i : Int) ((((backAll R i).line i).hist.length : Nat) : Int) = true := by
      unfold backB
      rw [backAll_off, ho, backAll_len]
      simp only [Bool.not_false, Bool.true_and, decide_eq_true_eq, Int.toNat_natCast]
      omega
    rw [backAll_succ]
    unfold backP
    rw [if_pos hb, Int.toNat_natCast, Int.toNat_natCast, setLine_line _ (by rw [backAll_len]; omega), hii, ih j]
    by_cases e : j = i
    · subst e; rw [if_pos rfl, if_pos (by omega)]
    · rw [if_neg e]
      by_cases h2 : j < i
      · rw [if_pos h2, if_pos (by omega)]
      · rw [if_neg h2, if_neg (by omega)]
/-- Behind it there is no history. -/
theorem backAll_hist {R : Dv} (ho : R.off = false) (j : Nat) (hj : j < R.lines.length) : ((backAll R R.lines.length).line j).hist = [] := by
  rw [backAll_line ho _ (Nat.le_refl _), if_pos hj]; simp [persistL]
theorem clean_dirty {R : Dv} (h : ∀ j, j < R.lines.length → (R.line j).hist = []) : dirtyL R = [] := by
  unfold dirtyL dirtyTo
  rw [List.filter_eq_nil_iff]
  intro j hj
  rw [List.mem_range] at hj
  rw [h j hj]; simp
theorem clean_image {R : Dv} (h : ∀ j, j < R.lines.length → (R.line j).hist = []) (kf : Nat → Nat) : crashW R kf = R.perW := by
  rw [← crashW_zero]
  refine crashW_congr _ _ _ (fun l hl => ?_)
  unfold wordsL
  rw [h l hl]; simp
theorem clean_cur {R : Dv} (h : ∀ j, j < R.lines.length → (R.line j).hist = []) : R.curW = R.perW := by
  rw [← crashW_all]; exact clean_image h _
end Go.Proofs.Ytkmhanjddkplbaa
