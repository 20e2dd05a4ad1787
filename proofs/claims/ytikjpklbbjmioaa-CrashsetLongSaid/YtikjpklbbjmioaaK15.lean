/- CrashsetLong: plain laws. -/
import Derived.Test.YtikjpklbbjmioaaK12
import Derived.Test.YtikjpklbbjmioaaK10
namespace Go.Proofs.Ytikjpklbbjmioaa
open Go.RowKit Go.Maps

/-- A device of two lines after k stores to its first line. -/
def lngR : Nat → Dv
  | 0 => newP 2
  | k + 1 => storeP (lngR k) 0 (8 * (k % 8)) k
structure LngI (k : Nat) (R : Dv) : Prop where
  left : R.left = -1
  off : R.off = false
  len : R.lines.length = 2
  h0 : (R.line 0).hist.length = k
  h1 : (R.line 1).hist.length = 0
theorem LngI.step {k : Nat} {R : Dv} (h : LngI k R) (o v : Nat) (ho : o % 8 = 0) (hl : o < 64) : LngI (k + 1) (storeP R 0 o v) := by
  have hb : R.isB o = true := decide_eq_true ⟨ho, by rw [h.len]; omega⟩
  have hc : countB R (R.isB o) = true := by unfold countB; rw [hb, h.off, h.left]; decide
  have e : countP R 0 (R.isB o) = { R with left := -1, exe := R.exe + 1 } := by
    unfold countP; rw [h.off, hb, h.left]; rfl
  have hd : o / 64 = 0 := by omega
  unfold storeP
  rw [if_pos hc, e]
  unfold putP
  rw [hd]
  have hl0 : 0 < ({ R with left := -1, exe := R.exe + 1 } : Dv).lines.length := by show 0 < R.lines.length; rw [h.len]; omega
  refine ⟨rfl, h.off, by rw [setLine_len]; exact h.len, ?_, ?_⟩
  · rw [setLine_line _ hl0, if_pos rfl]
    show (_ ++ [_]).length = _
    rw [List.length_append]
    show (R.line 0).hist.length + 1 = _
    rw [h.h0]
  · rw [setLine_line _ hl0, if_neg (by omega)]
    exact h.h1
theorem lngI : ∀ k, LngI k (lngR k)
  | 0 => ⟨rfl, rfl, rfl, rfl, rfl⟩
  | k + 1 => (lngI k).step _ _ (by omega) (by omega)
theorem lng_dirty {k : Nat} (hk : 0 < k) : dirtyL (lngR k) = [0] := by
  have h := lngI k
  have h2 : dirtyL (lngR k) = dirtyTo (lngR k) 2 := by unfold dirtyL; rw [h.len]
  rw [h2, dirtyTo_succ, dirtyTo_succ, if_neg (by rw [h.h1]; omega), if_pos (by rw [h.h0]; exact hk)]
  rfl
theorem lng_ok {k n : Nat} (hk : 0 < k) (hn : n < k + 1) : atOk (lngR k) n = true := by
  unfold atOk
  rw [lng_dirty hk]
  show decide (n / baseL (lngR k) 0 = 0) = true
  unfold baseL
  rw [(lngI k).h0]
  exact decide_eq_true (Nat.div_eq_of_lt hn)
theorem lng_digits {k n : Nat} (hk : 0 < k) (hn : n < k + 1) : digR (lngR k) (dirtyL (lngR k)) n = [n] := by
  rw [lng_dirty hk]
  show [n % baseL (lngR k) 0] = [n]
  unfold baseL
  rw [(lngI k).h0, Nat.mod_eq_of_lt hn]
theorem lng_fits {k : Nat} (hk : 0 < k) : fitsB (lngR k) (dirtyL (lngR k)) = decide (k ≤ 255) := by
  rw [lng_dirty hk]
  show (decide (((lngR k).line 0).hist.length ≤ 255) && true) = _
  rw [(lngI k).h0, Bool.and_true]
end Go.Proofs.Ytikjpklbbjmioaa
