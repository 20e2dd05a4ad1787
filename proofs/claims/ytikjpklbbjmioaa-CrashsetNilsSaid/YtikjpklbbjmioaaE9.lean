/- The reference's device: Content. -/
import Derived.Test.YtikjpklbbjmioaaE8
namespace Go.Proofs.Ytikjpklbbjmioaa
open Go.RowKit Go.Maps
variable {w : World} {F : Own} {o h T : Nat} {R : Dv}

/-! ### the bytes of words as an appended list -/
def byteTo (x b : Nat) : List Nat := (List.range b).map fun j => x / 256 ^ j % 256
theorem byteTo_succ (x b : Nat) : byteTo x (b + 1) = byteTo x b ++ [x / 256 ^ b % 256] := by unfold byteTo; rw [List.range_succ, List.map_append]; rfl
theorem byteTo_len (x b : Nat) : (byteTo x b).length = b := by simp [byteTo]
theorem pow_bytes (j : Nat) : 2 ^ (j * 8) = 256 ^ j := by rw [Nat.mul_comm, Nat.pow_mul]
theorem bytesL_get2 (ws : List Nat) (i : Nat) : (bytesL ws)[i]? = if i < ws.length * 8 then some (ws.getD (i / 8) 0 / 2 ^ (i % 8 * 8) % 256) else none := by
  by_cases h : i < ws.length * 8
  · rw [if_pos h, bytesL_get ws i h]
  · rw [if_neg h, List.getElem?_eq_none (by rw [bytesL_len]; omega)]
theorem byteTo_get (x b i : Nat) : (byteTo x b)[i]? = if i < b then some (x / 256 ^ i % 256) else none := by
  by_cases h : i < b
  · rw [if_pos h]; unfold byteTo; rw [List.getElem?_map, List.getElem?_range h]; rfl
  · rw [if_neg h, List.getElem?_eq_none (by rw [byteTo_len]; omega)]
theorem bytesL_snoc (ws : List Nat) (x : Nat) : bytesL (ws ++ [x]) = bytesL ws ++ byteTo x 8 := by
  apply List.ext_getElem?
  intro i
  rw [bytesL_get2, List.getElem?_append, bytesL_len]
  by_cases h : i < ws.length * 8
  · rw [if_pos h, bytesL_get2, if_pos h, if_pos (by simp; omega)]
    simp only [List.getD_eq_getElem?_getD]; rw [List.getElem?_append_left (by omega)]
  · rw [if_neg h, byteTo_get]
    by_cases h2 : i < ws.length * 8 + 8
    · rw [if_pos (by simp; omega), if_pos (by omega)]
      have e1 : i / 8 = ws.length := by omega
      have e2 : i - ws.length * 8 = i % 8 := by omega
      rw [e1, e2, pow_bytes]; simp
    · rw [if_neg (by simp; omega), if_neg (by omega)]
theorem bytesL_nil : bytesL [] = [] := rfl
theorem u8s_snoc (l : List Nat) (v : Nat) : u8s (l ++ [v]) = u8s l ++ [.int .u8 (v : Int)] := by simp [u8s]

/-! ### the counts that Content is given -/
def kOf (R : Dv) (ks : List Nat) (l : Nat) : Nat := if 0 < (R.line l).hist.length then (if (dirtyTo R l).length < ks.length then ks.getD (dirtyTo R l).length 0 else 0) else 0
def conTo (R : Dv) (ks : List Nat) (n : Nat) : List Nat := (List.range n).flatMap fun l => wordsL (R.line l) (kOf R ks l)
theorem conTo_succ (R : Dv) (ks : List Nat) (n : Nat) : conTo R ks (n + 1) = conTo R ks n ++ wordsL (R.line n) (kOf R ks n) := by
  unfold conTo; rw [List.range_succ, List.flatMap_append]; simp
theorem conTo_all (R : Dv) (ks : List Nat) : conTo R ks R.lines.length = crashW R (kOf R ks) := by
  unfold conTo crashW crashLs; rw [List.flatMap_def, List.flatMap_def, List.map_map]; rfl
theorem kOf_nil (R : Dv) : crashW R (kOf R []) = R.perW := by
  rw [← crashW_zero]; exact crashW_congr _ _ _ (fun l _ => by unfold kOf; simp)
def curK (R : Dv) : List Nat := (dirtyL R).map fun l => (R.line l).hist.length
theorem kOf_cur (R : Dv) : crashW R (kOf R (curK R)) = R.curW := by
  rw [← crashW_all]
  refine crashW_congr _ _ _ (fun l hl => ?_)
  by_cases hc : 0 < (R.line l).hist.length
  · have h1 := dirty_lt hl hc
    have h2 := dirty_place hl hc
    unfold kOf curK
    rw [if_pos hc, List.length_map, if_pos h1, getD_of 0 (by rw [List.getElem?_map, h2]; rfl)]
  · have e0 : (R.line l).hist = [] := List.eq_nil_of_length_eq_zero (by omega)
    unfold wordsL; rw [e0]; simp
theorem conTo_take (R : Dv) (ks : List Nat) (l j : Nat) (hj : j < (wordsL (R.line l) (kOf R ks l)).length) :
    conTo R ks l ++ (wordsL (R.line l) (kOf R ks l)).take (j + 1) = (conTo R ks l ++ (wordsL (R.line l) (kOf R ks l)).take j) ++ [wat (wordsL (R.line l) (kOf R ks l)) j] := by
  rw [List.take_add_one, get_of_lt 0 hj, Option.toList_some, List.append_assoc]; rfl
theorem dirtyTo_next (R : Dv) (l : Nat) : (dirtyTo R (l + 1)).length = if 0 < (R.line l).hist.length then (dirtyTo R l).length + 1 else (dirtyTo R l).length := by
  rw [dirtyTo_succ]; split <;> simp

/-- What Content returns. -/
def NewBytes (w : World) (xs : List Nat) (e : Ending) (w' : World) : Prop := ∃ a c, e = .returned (.slice a xs.length c) ∧ Grow w w' 5 a xs.length c (u8s xs)
end Go.Proofs.Ytikjpklbbjmioaa
