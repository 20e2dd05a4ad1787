/- Plain: the values of a row are valid; the bounds of and and or; the law PlanJoins of one column. -/
import Derived.Test.YtgnoikfmhncbmaaGreatDoorE1
import Derived.Test.YtgnoikfmhncbmaaGreatDoorV1
import Derived.Test.YtgnoikfmhncbmaaGreatDoorT2
import Derived.Test.YtgnoikfmhncbmaaGreatDoorB15
set_option linter.unusedVariables false
set_option linter.unusedSimpArgs false
namespace Go.Proofs.YtgnoikfmhncbmaaGreatDoor
open Go.RowKit Go.Lib
theorem size_sm : ∀ {t t' : AT}, t.same t' → t.size = t'.size
  | .nil, .nil, _ => rfl
  | .nil, .node .., h => h.elim
  | .node .., .nil, h => h.elim
  | .node _ _ _ _ l r, .node _ _ _ _ l' r', h => by
    obtain ⟨_, _, _, h1, h2⟩ := h
    simp only [AT.size, size_sm h1, size_sm h2]
def gsz : Nat → Nat
  | 0 => 0
  | 1 => 1
  | n + 2 => gsz (n + 1) + gsz n + 1
theorem gsz_step (n : Nat) : gsz n ≤ gsz (n + 1) := by
  match n with
  | 0 => simp [gsz]
  | n + 1 => show gsz (n + 1) ≤ gsz (n + 1) + gsz n + 1; omega
theorem gsz_mono {a b : Nat} (h : a ≤ b) : gsz a ≤ gsz b := by
  induction b with
  | zero => have : a = 0 := by omega
            rw [this]; exact Nat.le_refl _
  | succ b ih =>
    by_cases e : a = b + 1
    · rw [e]; exact Nat.le_refl _
    · exact Nat.le_trans (ih (by omega)) (gsz_step b)
theorem treeO_small (l : List Nd) : ∀ k i, (treeO l k i).size ≤ gsz (24 - i)
  | 0, i => Nat.zero_le _
  | k + 1, i => by
    unfold treeO
    split
    · exact Nat.zero_le _
    rename_i x hx
    split
    · exact Nat.zero_le _
    rename_i h24
    have hn : AT.nil.size ≤ 0 := Nat.le_refl _
    have a := treeO_small l k (i + 1 + x.lf % 3)
    have b := treeO_small l k (i + 2 + x.rt % 4)
    have ma := gsz_mono (show 24 - (i + 1 + x.lf % 3) ≤ 24 - i - 1 by omega)
    have mb := gsz_mono (show 24 - (i + 2 + x.rt % 4) ≤ 24 - i - 2 by omega)
    have e : ∃ n, 24 - i = n + 1 := ⟨24 - i - 1, by omega⟩
    obtain ⟨n, en⟩ := e
    rw [en] at ma mb
    have hg : gsz n + gsz (n - 1) + 1 ≤ gsz (n + 1) := by
      match n with
      | 0 => simp [gsz]
      | n + 1 => exact Nat.le_refl _
    rw [en]
    have e1 : n + 1 - 1 = n := by omega
    have e2 : n + 1 - 2 = n - 1 := by omega
    rw [e1] at ma
    rw [e2] at mb
    simp only [AT.size]
    have f1 : ∀ (c : Prop) [Decidable c] (t : AT) (m : Nat), t.size ≤ m → (if c then t else AT.nil).size ≤ m := fun c _ t m h => by split; exact h; exact Nat.zero_le _
    have a' := f1 (x.op % 12 = 1 ∨ x.op % 12 = 2 ∨ x.op % 12 = 3) _ _ (Nat.le_trans a ma)
    have b' := f1 (x.op % 12 = 1 ∨ x.op % 12 = 2) _ _ (Nat.le_trans b mb)
    omega
theorem treeO_size24 (l : List Nd) : (treeO l 24 0).size ≤ 200000 := Nat.le_trans (treeO_small l 24 0) (by decide)
/-- The type of a column of the laws' table, by its number; 4: the id. -/
def tyC (k : Nat) : Nat := if k = 4 then 1 else tyL.getD k 0
theorem kind_col (k : Nat) (h : k < 5) : kindP (colsT 4) (colN k) = some (tyC k) := by
  have l0 : (colN 0).toList = [97] := by simp [colN, colL, ByteArray.toList, ByteArray.toList.loop, ByteArray.size, ByteArray.get!]
  have l1 : (colN 1).toList = [98] := by simp [colN, colL, ByteArray.toList, ByteArray.toList.loop, ByteArray.size, ByteArray.get!]
  have l2 : (colN 2).toList = [99] := by simp [colN, colL, ByteArray.toList, ByteArray.toList.loop, ByteArray.size, ByteArray.get!]
  have l3 : (colN 3).toList = [100] := by simp [colN, colL, ByteArray.toList, ByteArray.toList.loop, ByteArray.size, ByteArray.get!]
  have l4 : (colN 4).toList = [105, 100] := by simp [colN, colL, ByteArray.toList, ByteArray.toList.loop, ByteArray.size, ByteArray.get!]
  have hc : colsT 4 = [colT 0, colT 1, colT 2, colT 3] := rfl
  have n0 : (colT 0).nm = colN 0 := rfl
  have n1 : (colT 1).nm = colN 1 := rfl
  have n2 : (colT 2).nm = colN 2 := rfl
  have n3 : (colT 3).nm = colN 3 := rfl
  obtain rfl | rfl | rfl | rfl | rfl : k = 0 ∨ k = 1 ∨ k = 2 ∨ k = 3 ∨ k = 4 := by omega
  all_goals
    unfold kindP
    simp only [hc, findI, n0, n1, n2, n3, l0, l1, l2, l3, l4, idS_l]
    rfl
theorem bas_form {a d : Int} {bs : ByteArray} {c : Bool} (ha : -2147483648 ≤ a ∧ a ≤ 2147483647) (hd : -2147483648 ≤ d ∧ d ≤ 2147483647) (k : Nat) (hk : k < 4) : formP (bas a d bs c k) = 0 ∧ (bas a d bs c k).ty = tyC k ∧ (bas a d bs c k).nl = false ∧ (bas a d bs c k).tx.size ≤ 10 := by
  have hv : validD ByteArray.empty.data.toList = true := by unfold validD; rfl
  obtain rfl | rfl | rfl | rfl : k = 0 ∨ k = 1 ∨ k = 2 ∨ k = 3 := by omega
  · refine ⟨?_, rfl, rfl, Nat.zero_le _⟩
    show formP ⟨1, false, a, ByteArray.empty, false⟩ = 0
    unfold formP
    simp only [hv]
    rw [if_neg (by simp), if_neg (by simp; omega), if_neg (by decide)]
  · have hs := txR_size bs (min bs.size 10)
    have hs2 : (txR bs (min bs.size 10)).size ≤ 10 := by omega
    refine ⟨?_, rfl, rfl, hs2⟩
    show formP ⟨2, false, 0, txR bs (min bs.size 10), false⟩ = 0
    have hv2 : validD (txR bs (min bs.size 10)).data.toList = true := valid_ascii _ (fun x hx => by
      rw [txR_list] at hx
      obtain ⟨y, _, rfl⟩ := List.mem_map.1 hx
      unfold ltr
      have : y.toNat % 26 < 26 := Nat.mod_lt _ (by decide)
      rw [UInt8.toNat_ofNat']
      omega)
    unfold formP
    simp only [hv2]
    rw [if_neg (by simp), if_neg (by simp), if_neg (by omega)]
  · refine ⟨?_, rfl, rfl, Nat.zero_le _⟩
    show formP ⟨3, false, 0, ByteArray.empty, c⟩ = 0
    unfold formP
    simp only [hv]
    rw [if_neg (by simp), if_neg (by simp), if_neg (by decide)]
  · refine ⟨?_, rfl, rfl, Nat.zero_le _⟩
    show formP ⟨1, false, d, ByteArray.empty, false⟩ = 0
    unfold formP
    simp only [hv]
    rw [if_neg (by simp), if_neg (by simp; omega), if_neg (by decide)]
theorem row_form {a d : Int} {bs : ByteArray} {c : Bool} {nu : Nat} (ha : -2147483648 ≤ a ∧ a ≤ 2147483647) (hd : -2147483648 ≤ d ∧ d ≤ 2147483647) (k : Nat) (hk : k < 4) :
    (rowV a d bs c nu k).ty = tyC k ∧ (rowV a d bs c nu k).tx.size ≤ 10 ∧ ((rowV a d bs c nu k).nl = false → formP (rowV a d bs c nu k) = 0) := by
  obtain ⟨h1, h2, h3, h4⟩ := bas_form (bs := bs) (c := c) ha hd k hk
  unfold rowV
  split
  · exact ⟨h2, Nat.zero_le _, fun h => by cases h⟩
  · exact ⟨h2, h4, fun _ => h1⟩
theorem okB_form {v : RV} (h : okB v = true) : v.nl = true ∨ formP v = 0 := by
  unfold okB at h
  simp only [Bool.or_eq_true, decide_eq_true_eq] at h
  rcases h with h | h
  · exact .inl h
  · exact .inr (cmpE_zero h).2.1
theorem within_iff (v lo hi : RV) : withinP v lo hi = true ↔ v.nl = false ∧ (lo.nl = true ∨ (cmpE lo v = 0 ∧ cmpX lo v ≤ 0)) ∧ (hi.nl = true ∨ (cmpE v hi = 0 ∧ cmpX v hi ≤ 0)) := by
  unfold withinP
  simp only [Bool.and_eq_true, Bool.or_eq_true, Bool.not_eq_true', decide_eq_true_eq]
  constructor
  · rintro ⟨⟨h1, h2⟩, h3⟩; exact ⟨h1, h2, h3⟩
  · rintro ⟨h1, h2, h3⟩; exact ⟨⟨h1, h2⟩, h3⟩
end Go.Proofs.YtgnoikfmhncbmaaGreatDoor
