/- Values of a column, as data; when they fit; valid UTF-8 as the reference steps through it. No program in sight. -/
import Derived.Lib.ValidLaws
namespace Go.Proofs.YtpjbcadelmjmfaaGreatDoor
open Go.Lib

/-- A value: type, null, integer, text, truth. -/
structure RV where
  ty : Nat
  nl : Bool
  n : Int
  tx : ByteArray
  b : Bool

/-- How many bytes the reference passes over, if they are one character. -/
def stepR (len b0 b1 b2 b3 : Nat) : Option Nat :=
  if b0 < 128 then some 1
  else if 192 ≤ b0 ∧ b0 < 224 then
    if 2 ≤ len ∧ (128 ≤ b1 ∧ b1 < 192) ∧ 128 ≤ (b0 - 192) * 64 + (b1 - 128) then some 2 else none
  else if 224 ≤ b0 ∧ b0 < 240 then
    if 3 ≤ len ∧ (128 ≤ b1 ∧ b1 < 192) ∧ (128 ≤ b2 ∧ b2 < 192) ∧ 2048 ≤ ((b0 - 224) * 64 + (b1 - 128)) * 64 + (b2 - 128) ∧
      ¬ (55296 ≤ ((b0 - 224) * 64 + (b1 - 128)) * 64 + (b2 - 128) ∧ ((b0 - 224) * 64 + (b1 - 128)) * 64 + (b2 - 128) < 57344) then some 3 else none
  else if 240 ≤ b0 ∧ b0 < 248 then
    if 4 ≤ len ∧ (128 ≤ b1 ∧ b1 < 192) ∧ (128 ≤ b2 ∧ b2 < 192) ∧ (128 ≤ b3 ∧ b3 < 192) ∧ 65536 ≤ (((b0 - 240) * 64 + (b1 - 128)) * 64 + (b2 - 128)) * 64 + (b3 - 128) ∧
      (((b0 - 240) * 64 + (b1 - 128)) * 64 + (b2 - 128)) * 64 + (b3 - 128) ≤ 1114111 then some 4 else none
  else none
set_option maxHeartbeats 2000000 in
theorem stepR_decode (len b0 b1 b2 b3 : Nat) (hl : 1 ≤ len) :
    (stepR len b0 b1 b2 b3 = none ∧ decodeN len b0 b1 b2 b3 = (65533, 1)) ∨
    (∃ k, stepR len b0 b1 b2 b3 = some k ∧ (decodeN len b0 b1 b2 b3).2 = k ∧ ¬ ((decodeN len b0 b1 b2 b3).1 = 65533 ∧ k = 1)) := by
  unfold stepR decodeN
  repeat' split
  all_goals first | (exfalso; omega) | (left; exact ⟨rfl, rfl⟩) | (right; exact ⟨_, rfl, rfl, by omega⟩)
theorem validD_stepR (l : List UInt8) (hne : l ≠ []) :
    validD l = match stepR l.length (l.getD 0 0).toNat (l.getD 1 0).toNat (l.getD 2 0).toNat (l.getD 3 0).toNat with
      | none => false
      | some k => validD (l.drop k) := by
  have hl : 0 < l.length := List.length_pos_iff.2 hne
  rw [validD_step l hne, decodeL_N]
  rcases stepR_decode l.length (l.getD 0 0).toNat (l.getD 1 0).toNat (l.getD 2 0).toNat (l.getD 3 0).toNat hl with ⟨h1, h2⟩ | ⟨k, h1, h2, h3⟩
  · rw [h1, h2]; simp
  · rw [h1, h2, if_neg h3]

/-- The error number of a value by itself. -/
def formP (v : RV) : Nat :=
  if v.ty < 1 ∨ 3 < v.ty ∨ (v.n ≠ 0 ∧ (v.nl = true ∨ v.ty ≠ 1)) ∨ (v.tx.data.toList ≠ [] ∧ (v.nl = true ∨ v.ty ≠ 2)) ∨ (v.b = true ∧ (v.nl = true ∨ v.ty ≠ 3)) then 16
  else if v.n < -2147483648 ∨ 2147483648 ≤ v.n ∨ validD v.tx.data.toList = false then 16
  else if 200 < v.tx.size then 9 else 0
/-- The error number of a value for a column of a type. -/
def fitsP (ct : Nat) (cn : Bool) (v : RV) : Nat := if v.ty ≠ ct ∨ (v.nl = true ∧ cn = false) then 16 else formP v
end Go.Proofs.YtpjbcadelmjmfaaGreatDoor
