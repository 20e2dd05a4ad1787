/- Conditions: trees with the blocks in which their nodes lie; the program's and the reference's. Bounds, plain: spans of conditions; the program's two combinations are the reference's. -/
import Derived.Test.YtgnoikfmhncbmaaGreatDoorR0
import Derived.Test.YtgnoikfmhncbmaaGreatDoorPM
import Derived.Test.YtgnoikfmhncbmaaGreatDoorR19
import Derived.Test.YtgnoikfmhncbmaaGreatDoorR25
set_option linter.unusedVariables false
set_option linter.unusedSimpArgs false
namespace Go.Proofs.YtgnoikfmhncbmaaGreatDoor
open Go.RowKit
/-- A condition: each node's block, operator, column, value, operands. -/
inductive AT where
  | nil
  | node (b op : Nat) (col : ByteArray) (v : RV) (l r : AT)
def AT.ptr : AT → Value
  | .nil => .pointer none
  | .node b _ _ _ _ _ => .pointer (some ⟨b, 0, none⟩)
def AT.addrs : AT → List Nat
  | .nil => []
  | .node b _ _ _ l r => b :: (l.addrs ++ r.addrs)
def AT.size : AT → Nat
  | .nil => 0
  | .node _ _ _ _ l r => l.size + r.size + 1
theorem AT.addrs_len (t : AT) : t.addrs.length = t.size := by
  induction t with
  | nil => rfl
  | node b op col v l r hl hr => simp [AT.addrs, AT.size, hl, hr]
def exCells (op : Nat) (pl pr : Value) (col : ByteArray) (v : RV) : List Value := [.int .u8 (op : Int), pl, pr, .string col, .int .u8 (v.ty : Int), .bool v.nl, .int .i64 v.n, .string v.tx, .bool v.b]
def coCells (op : Nat) (pl pr : Value) (col : ByteArray) (v : RV) : List Value := [.int .i64 (op : Int), pl, pr, .string col, .int .i64 (v.ty : Int), .bool v.nl, .int .i64 v.n, .string v.tx, .bool v.b]
/-- The tree lies in memory, as the program has it. -/
def AT.At (w : World) : AT → Prop
  | .nil => True
  | .node b op col v l r => Has w b (exCells op l.ptr r.ptr col v) 46 ∧ l.At w ∧ r.At w
/-- As the reference has it. -/
def AT.RAt (w : World) : AT → Prop
  | .nil => True
  | .node b op col v l r => Has w b (coCells op l.ptr r.ptr col v) 97 ∧ l.RAt w ∧ r.RAt w
theorem AT.At.only {S : Nat → Prop} {w w' : World} (ho : Only S w w') : ∀ {t : AT}, t.At w → (∀ a ∈ t.addrs, ¬ S a) → t.At w'
  | .nil, _, _ => trivial
  | .node b op col v l r, ⟨h1, h2, h3⟩, hs => ⟨h1.only ho (hs b (by simp [AT.addrs])), AT.At.only ho h2 (fun a ha => hs a (by simp [AT.addrs, ha])), AT.At.only ho h3 (fun a ha => hs a (by simp [AT.addrs, ha]))⟩
theorem AT.At.lt {w : World} : ∀ {t : AT}, t.At w → ∀ a ∈ t.addrs, a < w.heap.size
  | .nil, _, a, ha => by cases ha
  | .node b op col v l r, ⟨h1, h2, h3⟩, a, ha => by
    simp only [AT.addrs, List.mem_cons, List.mem_append] at ha
    rcases ha with rfl | ha | ha
    · exact h1.lt
    · exact AT.At.lt h2 a ha
    · exact AT.At.lt h3 a ha
theorem AT.At.below {w w' : World} {t : AT} (h : t.At w) (hb : Below w.heap.size w w') : t.At w' := h.only (Only.of_below hb) (fun a ha => Nat.not_le.2 (h.lt a ha))
theorem AT.At.plain {w : World} : ∀ {t : AT}, t.At w → ∀ a ∈ t.addrs, Plain w a
  | .nil, _, a, ha => by cases ha
  | .node b op col v l r, ⟨h1, h2, h3⟩, a, ha => by
    simp only [AT.addrs, List.mem_cons, List.mem_append] at ha
    rcases ha with rfl | ha | ha
    · exact Plain.has h1
    · exact AT.At.plain h2 a ha
    · exact AT.At.plain h3 a ha
theorem AT.RAt.only {S : Nat → Prop} {w w' : World} (ho : Only S w w') : ∀ {t : AT}, t.RAt w → (∀ a ∈ t.addrs, ¬ S a) → t.RAt w'
  | .nil, _, _ => trivial
  | .node b op col v l r, ⟨h1, h2, h3⟩, hs => ⟨h1.only ho (hs b (by simp [AT.addrs])), AT.RAt.only ho h2 (fun a ha => hs a (by simp [AT.addrs, ha])), AT.RAt.only ho h3 (fun a ha => hs a (by simp [AT.addrs, ha]))⟩
theorem AT.RAt.lt {w : World} : ∀ {t : AT}, t.RAt w → ∀ a ∈ t.addrs, a < w.heap.size
  | .nil, _, a, ha => by cases ha
  | .node b op col v l r, ⟨h1, h2, h3⟩, a, ha => by
    simp only [AT.addrs, List.mem_cons, List.mem_append] at ha
    rcases ha with rfl | ha | ha
    · exact h1.lt
    · exact AT.RAt.lt h2 a ha
    · exact AT.RAt.lt h3 a ha
theorem AT.RAt.below {w w' : World} {t : AT} (h : t.RAt w) (hb : Below w.heap.size w w') : t.RAt w' := h.only (Only.of_below hb) (fun a ha => Nat.not_le.2 (h.lt a ha))
/-- Two trees that are one but for their blocks. -/
def AT.same : AT → AT → Prop
  | .nil, .nil => True
  | .node _ op col v l r, .node _ op' col' v' l' r' => op = op' ∧ col = col' ∧ v = v' ∧ l.same l' ∧ r.same r'
  | _, _ => False
/-- Every text in the tree is of a size that memory has; values are of their kinds. -/
def AT.Fit : AT → Prop
  | .nil => True
  | .node _ op col v l r => op < 256 ∧ col.size ≤ 140737488351232 ∧ v.ty < 256 ∧ v.tx.size ≤ 140737488351232 ∧ l.Fit ∧ r.Fit
end Go.Proofs.YtgnoikfmhncbmaaGreatDoor

namespace Go.Proofs.YtgnoikfmhncbmaaGreatDoor
open Go.Lib
def RVN : RV := ⟨0, true, 0, ByteArray.empty, false⟩
/-- A span. -/
structure Sp where
  lo : RV
  hi : RV
  ex : Bool
def Sp.cells (s : Sp) : List Value := s.lo.cells ++ s.hi.cells ++ [.bool s.ex]
def Sp.val (s : Sp) : Value := .agg s.cells.toArray
def spN (ex : Bool) : Sp := ⟨RVN, RVN, ex⟩
/-- A bound is none, or it is not null. -/
def RV.Bd (v : RV) : Prop := (v.nl = true → v = RVN) ∧ v.tx.size ≤ 140737488351232 ∧ v.ty < 256
theorem RVN.bd : RVN.Bd := ⟨fun _ => rfl, by decide, by decide⟩
/-- The program's lower bound of an and, and whether it is exact. -/
def lowA (a b : RV) : RV := if b.nl then a else if a.nl then b else if cmpE a b ≠ 0 then a else if cmpX a b < 0 then b else a
def highA (a b : RV) : RV := if b.nl then a else if a.nl then b else if cmpE a b ≠ 0 then a else if cmpX a b > 0 then b else a
def ordA (a b : RV) : Bool := b.nl || a.nl || decide (cmpE a b = 0)
def bothP (a b : Sp) : Sp := ⟨lowA a.lo b.lo, highA a.hi b.hi, (a.ex && b.ex) && ordA a.lo b.lo && ordA a.hi b.hi⟩
def lowO (a b : RV) : RV := if a.nl || b.nl then RVN else if cmpE a b = 0 then (if cmpX a b > 0 then b else a) else RVN
def highO (a b : RV) : RV := if a.nl || b.nl then RVN else if cmpE a b = 0 then (if cmpX a b < 0 then b else a) else RVN
def eitherP (a b : Sp) : Sp := ⟨lowO a.lo b.lo, highO a.hi b.hi, false⟩
def simpP (op : Nat) (cc col : ByteArray) (v : RV) : Sp :=
  if cc ≠ col ∨ v.nl = true then spN false
  else if op = 4 then ⟨v, v, true⟩
  else if op = 7 then ⟨RVN, v, true⟩
  else if op = 6 then ⟨RVN, v, false⟩
  else if op = 9 then ⟨v, RVN, true⟩
  else if op = 8 then ⟨v, RVN, false⟩
  else spN false
def AT.isNil : AT → Bool | .nil => true | _ => false
def pairB (op : Nat) (l r : AT) : Bool := (decide (op = 1) || decide (op = 2)) && !l.isNil && !r.isNil
/-- The span of a condition. -/
def bndP (col : ByteArray) : AT → Sp
  | .nil => spN true
  | .node _ op c v l r => if pairB op l r then (if op = 1 then bothP (bndP col l) (bndP col r) else eitherP (bndP col l) (bndP col r)) else simpP op c col v
def Sp.Bd (s : Sp) : Prop := s.lo.Bd ∧ s.hi.Bd
theorem spN.bd (e : Bool) : (spN e).Bd := ⟨RVN.bd, RVN.bd⟩
theorem ite_bd {c : Prop} [Decidable c] {a b : RV} (ha : a.Bd) (hb : b.Bd) : (if c then a else b).Bd := by split <;> assumption
theorem bothP.bd {a b : Sp} (ha : a.Bd) (hb : b.Bd) : (bothP a b).Bd := by
  unfold bothP lowA highA
  exact ⟨ite_bd ha.1 (ite_bd hb.1 (ite_bd ha.1 (ite_bd hb.1 ha.1))), ite_bd ha.2 (ite_bd hb.2 (ite_bd ha.2 (ite_bd hb.2 ha.2)))⟩
theorem eitherP.bd {a b : Sp} (ha : a.Bd) (hb : b.Bd) : (eitherP a b).Bd := by
  unfold eitherP lowO highO
  exact ⟨ite_bd RVN.bd (ite_bd (ite_bd hb.1 ha.1) RVN.bd), ite_bd RVN.bd (ite_bd (ite_bd hb.2 ha.2) RVN.bd)⟩
theorem simpP.bd {op : Nat} {cc col : ByteArray} {v : RV} (hv : v.tx.size ≤ 140737488351232) (ht : v.ty < 256) : (simpP op cc col v).Bd := by
  unfold simpP
  split
  · exact spN.bd _
  · rename_i h
    have hb : v.Bd := ⟨fun hn => absurd (Or.inr hn) h, hv, ht⟩
    repeat' split
    · exact ⟨hb, hb⟩
    · exact ⟨RVN.bd, hb⟩
    · exact ⟨RVN.bd, hb⟩
    · exact ⟨hb, RVN.bd⟩
    · exact ⟨hb, RVN.bd⟩
    · exact spN.bd _
theorem bndP.bd (col : ByteArray) : ∀ {t : AT}, t.Fit → (bndP col t).Bd
  | .nil, _ => spN.bd _
  | .node _ op c v l r, ⟨_, _, h3, h4, h5, h6⟩ => by
    unfold bndP
    split
    · split
      · exact bothP.bd (bndP.bd col h5) (bndP.bd col h6)
      · exact eitherP.bd (bndP.bd col h5) (bndP.bd col h6)
    · exact simpP.bd h4 h3
theorem isNil_same : ∀ {t t' : AT}, t.same t' → t.isNil = t'.isNil
  | .nil, .nil, _ => rfl
  | .node .., .node .., _ => rfl
  | .nil, .node .., h => h.elim
  | .node .., .nil, h => h.elim
theorem bnd_same (col : ByteArray) : ∀ {t t' : AT}, t.same t' → bndP col t = bndP col t'
  | .nil, .nil, _ => rfl
  | .nil, .node .., h => h.elim
  | .node .., .nil, h => h.elim
  | .node _ op c v l r, .node _ op' c' v' l' r', h => by
    obtain ⟨rfl, rfl, rfl, h1, h2⟩ := h
    unfold bndP pairB
    rw [isNil_same h1, isNil_same h2, bnd_same col h1, bnd_same col h2]
theorem fit_same : ∀ {t t' : AT}, t.same t' → t.Fit → t'.Fit
  | .nil, .nil, _, _ => trivial
  | .nil, .node .., h, _ => h.elim
  | .node .., .nil, h, _ => h.elim
  | .node _ op c v l r, .node _ op' c' v' l' r', h, hf => by
    obtain ⟨rfl, rfl, rfl, h1, h2⟩ := h
    obtain ⟨f1, f2, f3, f4, f5, f6⟩ := hf
    exact ⟨f1, f2, f3, f4, fit_same h1 f5, fit_same h2 f6⟩
/-- The reference's words. -/
def pickR (a b : RV) (s : Int) : RV := if cmpBad a b = false ∧ cmpR a b * s < 0 then b else a
def bothR (a b : RV) (s : Int) : RV := if a.nl then b else if b.nl then a else pickR a b s
def eitherR (a b : RV) (s : Int) : RV := if a.nl || b.nl || cmpBad a b then RVN else pickR a b s
def ordR (a b : RV) : Bool := a.nl || b.nl || !cmpBad a b
theorem cmpX_R {a b : RV} (h : cmpBad a b = false) : cmpX a b = cmpR a b ∧ cmpE a b = 0 := by
  have h0 : cmpE a b = 0 := by unfold cmpE; rw [h]; rfl
  obtain ⟨_, f1, f2, f3⟩ := cmpE_zero h0
  obtain ⟨_, g⟩ := cmpE_ok f1 f2 f3
  exact ⟨g.trans (cmp_same f1 f2 f3), h0⟩
theorem cmpE_bad {a b : RV} (h : cmpBad a b = true) : cmpE a b = 16 := by unfold cmpE; rw [h]; rfl
theorem low_same {a b : RV} (ha : a.Bd) (hb : b.Bd) : lowA a b = bothR a b 1 := by
  unfold lowA bothR pickR
  cases h1 : a.nl <;> cases h2 : b.nl
  · simp only [Bool.false_eq_true, if_false]
    cases hc : cmpBad a b
    · obtain ⟨e1, e2⟩ := cmpX_R hc
      rw [e1, e2]; simp
    · rw [cmpE_bad hc]; simp
  · simp
  · simp
  · simp [ha.1 h1, hb.1 h2]
theorem high_same {a b : RV} (ha : a.Bd) (hb : b.Bd) : highA a b = bothR a b (-1) := by
  unfold highA bothR pickR
  cases h1 : a.nl <;> cases h2 : b.nl
  · simp only [Bool.false_eq_true, if_false]
    cases hc : cmpBad a b
    · obtain ⟨e1, e2⟩ := cmpX_R hc
      rw [e1, e2]
      have : (cmpR a b * -1 < 0) = (cmpR a b > 0) := by apply propext; omega
      simp [this]
    · rw [cmpE_bad hc]; simp
  · simp
  · simp
  · simp [ha.1 h1, hb.1 h2]
theorem ord_same (a b : RV) : ordA a b = ordR a b := by
  unfold ordA ordR
  cases hc : cmpBad a b
  · rw [(cmpX_R hc).2]; cases a.nl <;> cases b.nl <;> rfl
  · rw [cmpE_bad hc]; cases a.nl <;> cases b.nl <;> rfl
theorem lowO_same (a b : RV) : lowO a b = eitherR a b (-1) := by
  unfold lowO eitherR pickR
  cases h1 : a.nl <;> cases h2 : b.nl <;> simp only [Bool.or_true, Bool.true_or, Bool.or_self, if_true, Bool.false_or, Bool.false_eq_true, if_false]
  cases hc : cmpBad a b
  · obtain ⟨e1, e2⟩ := cmpX_R hc
    rw [e1, e2]
    have : (cmpR a b * -1 < 0) = (cmpR a b > 0) := by apply propext; omega
    simp [this]
  · rw [cmpE_bad hc]; simp
theorem highO_same (a b : RV) : highO a b = eitherR a b 1 := by
  unfold highO eitherR pickR
  cases h1 : a.nl <;> cases h2 : b.nl <;> simp only [Bool.or_true, Bool.true_or, Bool.or_self, if_true, Bool.false_or, Bool.false_eq_true, if_false]
  cases hc : cmpBad a b
  · obtain ⟨e1, e2⟩ := cmpX_R hc
    rw [e1, e2]; simp
  · rw [cmpE_bad hc]; simp
end Go.Proofs.YtgnoikfmhncbmaaGreatDoor
