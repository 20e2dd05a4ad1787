/- Numbers and literals, plain: what Literal and Text give, and that each is the other's inverse. No program in sight. -/
import Derived.Test.YtpjbcadelmjmfaaGreatDoorLit
import Derived.Test.YtpjbcadelmjmfaaGreatDoorEnc
import Derived.Lib.ItoaNum
import Derived.Lib.ParseIntB
import Derived.Lib.SlTrimSet
import Derived.Lib.Strings
namespace Go.Proofs.YtpjbcadelmjmfaaGreatDoor
open Go.Lib

def allDig (l : List UInt8) : Bool := l.all fun c => decide (48 ≤ c.toNat) && decide (c.toNat ≤ 57)
def valFrom : Nat → List UInt8 → Nat
  | a, [] => a
  | a, c :: r => valFrom (a * 10 + (c.toNat - 48)) r
def capFrom : Nat → List UInt8 → Nat
  | a, [] => a
  | a, c :: r => capFrom (min (10 * a + (c.toNat - 48)) 1099511627776) r
theorem cap_val : ∀ (l : List UInt8) (a : Nat), capFrom (min a 1099511627776) l = min (valFrom a l) 1099511627776
  | [], a => rfl
  | c :: r, a => by
    show capFrom (min (10 * min a 1099511627776 + (c.toNat - 48)) 1099511627776) r = _
    have e : min (10 * min a 1099511627776 + (c.toNat - 48)) 1099511627776 = min (a * 10 + (c.toNat - 48)) 1099511627776 := by omega
    rw [e, cap_val r]; rfl
theorem val_ge : ∀ (l : List UInt8) (a : Nat), a ≤ valFrom a l
  | [], a => Nat.le_refl _
  | c :: r, a => by have := val_ge r (a * 10 + (c.toNat - 48)); show a ≤ valFrom _ r; omega
theorem val_snoc : ∀ (l : List UInt8) (a : Nat) (c : UInt8), valFrom a (l ++ [c]) = valFrom a l * 10 + (c.toNat - 48)
  | [], a, c => rfl
  | x :: r, a, c => by rw [List.cons_append]; exact val_snoc r _ c
theorem allDig_cons {c : UInt8} {r : List UInt8} (h : allDig (c :: r) = true) : (48 ≤ c.toNat ∧ c.toNat ≤ 57) ∧ allDig r = true := by
  unfold allDig at h ⊢
  simp only [List.all_cons, Bool.and_eq_true, decide_eq_true_eq] at h
  exact ⟨h.1, h.2⟩
theorem parse_dig : ∀ (l : List UInt8) (a : Nat), a ≤ 4294967295 → allDig l = true → parseUintM 4294967295 a l = if valFrom a l ≤ 4294967295 then .ok (valFrom a l) else .range
  | [], a, h, _ => by show NumEnd.ok a = if a ≤ 4294967295 then NumEnd.ok a else NumEnd.range; rw [if_pos h]
  | c :: r, a, h, hd => by
    obtain ⟨h1, h2⟩ := allDig_cons hd
    unfold parseUintM
    rw [if_pos h1, if_neg (by omega)]
    by_cases hv : 4294967295 < a * 10 + (c.toNat - 48)
    · rw [if_pos hv, if_neg]
      have := val_ge r (a * 10 + (c.toNat - 48))
      show ¬ valFrom _ r ≤ _
      omega
    · rw [if_neg hv, parse_dig r _ (by omega) h2]; rfl
theorem parse_pos (l : List UInt8) (hne : l ≠ []) (hd : allDig l = true) : parseIntB 32 l = if valFrom 0 l < 2147483648 then .ok (valFrom 0 l : Int) else .range := by
  cases l with
  | nil => exact absurd rfl hne
  | cons c r =>
    obtain ⟨h1, _⟩ := allDig_cons hd
    unfold parseIntB
    simp only
    rw [if_neg (by omega)]
    unfold parseUintB
    rw [if_neg (by simp)]
    have e : 2 ^ 32 - 1 = 4294967295 := rfl
    rw [e, parse_dig _ 0 (by omega) hd]
    by_cases hv : valFrom 0 (c :: r) ≤ 4294967295
    · rw [if_pos hv]
      simp only
      by_cases h2 : valFrom 0 (c :: r) < 2147483648
      · rw [if_pos h2, if_neg (by omega), if_neg (by omega), if_neg (by omega)]
      · rw [if_neg h2, if_pos (by constructor <;> omega)]
    · rw [if_neg hv, if_neg (by omega)]
theorem parse_neg (l : List UInt8) (hne : l ≠ []) (hd : allDig l = true) : parseIntB 32 (45 :: l) = if valFrom 0 l ≤ 2147483648 then .ok (-(valFrom 0 l : Int)) else .range := by
  unfold parseIntB
  simp only
  have e45 : (45 : UInt8).toNat = 45 := rfl
  rw [if_pos (.inr e45)]
  unfold parseUintB
  rw [if_neg hne]
  have e : 2 ^ 32 - 1 = 4294967295 := rfl
  rw [e, parse_dig _ 0 (by omega) hd]
  by_cases hv : valFrom 0 l ≤ 4294967295
  · rw [if_pos hv]
    simp only [e45]
    by_cases h2 : valFrom 0 l ≤ 2147483648
    · rw [if_pos h2, if_neg (by simp), if_neg (by simp; omega)]; rfl
    · rw [if_neg h2, if_neg (by simp), if_pos (by simp; omega)]
  · rw [if_neg hv, if_neg (by omega)]

/-! ### Trim of the digits -/
def digs : List UInt8 := [48, 49, 50, 51, 52, 53, 54, 55, 56, 57]
theorem digs_fin : ∀ n : Fin 256, digs.contains (UInt8.ofNat n.val) = (decide (48 ≤ n.val) && decide (n.val ≤ 57)) := by decide +kernel
theorem digs_contains (c : UInt8) : digs.contains c = (decide (48 ≤ c.toNat) && decide (c.toNat ≤ 57)) := by
  have := digs_fin ⟨c.toNat, c.toNat_lt⟩
  simpa using this
theorem tw_mem (p : UInt8 → Bool) : ∀ l : List UInt8, ∀ x ∈ l.takeWhile p, p x = true
  | [], x, h => by simp at h
  | c :: r, x, h => by
    rw [List.takeWhile_cons] at h
    by_cases hc : p c = true
    · rw [if_pos hc] at h
      rcases List.mem_cons.1 h with rfl | h
      · exact hc
      · exact tw_mem p r x h
    · rw [if_neg hc] at h; simp at h
theorem dw_nil (p : UInt8 → Bool) : ∀ l : List UInt8, l.dropWhile p = [] ↔ ∀ x ∈ l, p x = true
  | [] => by simp
  | c :: r => by
    rw [List.dropWhile_cons]
    by_cases h : p c = true
    · rw [if_pos h, dw_nil p r]; simp [h]
    · rw [if_neg h]; simp [h]
theorem trim_digs (l : List UInt8) : trimS l digs = [] ↔ allDig l = true := by
  have hall : allDig l = true ↔ ∀ c ∈ l, digs.contains c = true := by
    unfold allDig
    rw [List.all_eq_true]
    constructor
    · intro h c hc; rw [digs_contains]; exact h c hc
    · intro h c hc; rw [← digs_contains]; exact h c hc
  rw [hall]
  unfold trimS trimLeftS trimRightS
  rw [dw_nil]
  constructor
  · intro h c hc
    have hm : c ∈ l.reverse := List.mem_reverse.2 hc
    rw [← List.takeWhile_append_dropWhile (p := (digs.contains ·)) (l := l.reverse), List.mem_append] at hm
    rcases hm with hm | hm
    · exact tw_mem _ _ c hm
    · exact h c (List.mem_reverse.2 hm)
  · intro h c hc
    rw [List.mem_reverse] at hc
    exact h c (List.mem_reverse.1 (List.dropWhile_sublist _ |>.mem hc))

/-! ### decimal digits -/
theorem dec_dig (u : Nat) : allDig (decDigits u) = true ∧ valFrom 0 (decDigits u) = u ∧ decDigits u ≠ [] ∧ (0 < u → (decDigits u).head? ≠ some 48) := by
  induction u using Nat.strongRecOn with
  | ind u ih =>
    unfold decDigits
    by_cases h : u < 10
    · rw [dif_pos h]
      have e : (UInt8.ofNat (48 + u)).toNat = 48 + u := by rw [UInt8.toNat_ofNat']; omega
      refine ⟨by unfold allDig; simp only [List.all_cons, List.all_nil, e]; simp; omega, by show 0 * 10 + ((UInt8.ofNat (48 + u)).toNat - 48) = u; rw [e]; omega, by simp, ?_⟩
      intro hu hh
      simp only [List.head?_cons, Option.some.injEq] at hh
      rw [hh] at e
      simp at e
      omega
    · rw [dif_neg h]
      obtain ⟨h1, h2, h3, h4⟩ := ih (u / 10) (by omega)
      have e : (UInt8.ofNat (48 + u % 10)).toNat = 48 + u % 10 := by rw [UInt8.toNat_ofNat']; omega
      refine ⟨?_, ?_, by simp, ?_⟩
      · unfold allDig at h1 ⊢
        rw [List.all_append, h1]
        simp only [List.all_cons, List.all_nil, e]
        simp
        omega
      · rw [val_snoc, h2, e]; omega
      · intro _
        cases hd : decDigits (u / 10) with
        | nil => exact absurd hd h3
        | cons c r =>
          rw [hd] at h4
          exact h4 (by omega)
theorem val_dec1 : ∀ (l : List UInt8) (a : Nat), 0 < a → allDig l = true → decDigits (valFrom a l) = decDigits a ++ l
  | [], a, _, _ => by rw [show valFrom a [] = a from rfl, List.append_nil]
  | c :: r, a, ha, hd => by
    obtain ⟨h1, h2⟩ := allDig_cons hd
    have ec : UInt8.ofNat (48 + (c.toNat - 48)) = c := by
      have : 48 + (c.toNat - 48) = c.toNat := by omega
      rw [this]; simp
    show decDigits (valFrom (a * 10 + (c.toNat - 48)) r) = _
    rw [val_dec1 r _ (by omega) h2]
    have e1 : (a * 10 + (c.toNat - 48)) / 10 = a := by omega
    have e2 : (a * 10 + (c.toNat - 48)) % 10 = c.toNat - 48 := by omega
    rw [decDigits, dif_neg (by omega), e1, e2, ec]
    simp
theorem val_dec (l : List UInt8) (hne : l ≠ []) (hd : allDig l = true) (h0 : l.head? ≠ some 48 ∨ l = [48]) : decDigits (valFrom 0 l) = l ∧ (l.head? ≠ some 48 → 0 < valFrom 0 l) := by
  cases l with
  | nil => exact absurd rfl hne
  | cons c r =>
    obtain ⟨h1, h2⟩ := allDig_cons hd
    rcases h0 with h0 | h0
    · have hc : c.toNat ≠ 48 := fun e => h0 (by rw [List.head?_cons]; congr 1; exact UInt8.toNat_inj.1 (by rw [e]; rfl))
      have ec : UInt8.ofNat (48 + (c.toNat - 48)) = c := by
        have : 48 + (c.toNat - 48) = c.toNat := by omega
        rw [this]; simp
      have hv : valFrom 0 (c :: r) = valFrom (c.toNat - 48) r := by show valFrom (0 * 10 + (c.toNat - 48)) r = _; rw [Nat.zero_mul, Nat.zero_add]
      rw [hv, val_dec1 r _ (by omega) h2, decDigits_one (show c.toNat - 48 < 10 by omega), ec]
      refine ⟨rfl, fun _ => ?_⟩
      have := val_ge r (c.toNat - 48)
      omega
    · cases h0
      exact ⟨by rw [show valFrom 0 [48] = 0 from rfl, decDigits_one (by omega)]; rfl, fun h => absurd rfl h⟩

/-! ### Text and Literal -/
def nullL : List UInt8 := [110, 117, 108, 108]
def trueL : List UInt8 := [116, 114, 117, 101]
def falseL : List UInt8 := [102, 97, 108, 115, 101]
def textP (v : RV) : List UInt8 :=
  if formP v ≠ 0 then [] else if v.nl then nullL else if v.ty = 1 then itoa v.n else if v.ty = 2 then 39 :: dbl v.tx.data.toList ++ [39] else if v.b then trueL else falseL
def badV : RV := ⟨0, false, 0, ByteArray.empty, false⟩
/-- What lies between the quotes. -/
def quotP (s : List UInt8) : RV × Nat :=
  match unq s with
  | none => (badV, 11)
  | some t => if validD t = false then (badV, 11) else if 200 < t.length then (badV, 9) else (⟨2, false, 0, ⟨t.toArray⟩, false⟩, 0)
def isQ (s : List UInt8) : Bool := decide (2 ≤ s.length) && (s.getD 0 0 == 39) && (s.getD (s.length - 1) 0 == 39)
def numP (s : List UInt8) : RV × Nat :=
  let d := trimPrefix s [45]
  if allDig d = false ∨ d = [] ∨ (d.getD 0 0 = 48 ∧ s ≠ [48]) then (badV, 11)
  else match parseIntB 32 s with
    | .ok n => (⟨1, false, n, ByteArray.empty, false⟩, 0)
    | _ => (badV, 16)
def litP (s : List UInt8) : RV × Nat :=
  if s = nullL then (⟨0, true, 0, ByteArray.empty, false⟩, 0)
  else if s = trueL ∨ s = falseL then (⟨3, false, 0, ByteArray.empty, decide (s = trueL)⟩, 0)
  else if isQ s then quotP ((s.take (s.length - 1)).drop 1)
  else numP s
end Go.Proofs.YtpjbcadelmjmfaaGreatDoor
