/- Maps keyed by pointers to variables of their own: what they hold, key by key; lookup and update. -/
import Derived.Test.YtgnoikfmhncbmaaGreatDoorVal
import Derived.LaidEql
import Derived.MapKept
import Derived.Carry
import Derived.Maps.Own
set_option linter.unusedVariables false
set_option linter.unusedSimpArgs false
namespace Go.Proofs.YtgnoikfmhncbmaaGreatDoor
open Go Go.RowKit
/-- A block of plain cells. -/
def Plain (w : World) (k : Nat) : Prop := ∃ cs T, w.heap[k]? = some (.cells cs T (0, 0))
theorem Plain.has {w : World} {b : Nat} {cs : List Value} {T : TypeId} (h : Has w b cs T) : Plain w b := ⟨_, _, h⟩
theorem Plain.lt {w : World} {k : Nat} (h : Plain w k) : k < w.heap.size := by obtain ⟨_, _, h⟩ := h; exact heap_lt h
theorem Plain.only {S : Nat → Prop} {w w' : World} {k : Nat} (h : Plain w k) (ho : Only S w w') (hs : ¬ S k) : Plain w' k := by
  have hl := h.lt
  obtain ⟨cs, T, h⟩ := h
  exact ⟨cs, T, (ho.block k hl hs).trans h⟩
abbrev ptrV (k : Nat) : Value := .pointer (some ⟨k, 0, none⟩)
section
variable {P : Program} {tp te : TypeId} {j : TypeInfo}
theorem eq_ptr (w : World) (hp : P.underlying tp = some (.pointer te)) (hte : P.info? te = some j) (hsz : j.size ≠ 0) {a b : Nat} (ha : Plain w a) (hb : Plain w b) :
    (Op.equal tp (ptrV a) (ptrV b)).run P w = .ok (decide (a = b)) w := by
  obtain ⟨ca, ta, ha⟩ := ha
  obtain ⟨cb, tb, hb⟩ := hb
  have key : ∀ d : Nat, (Op.equalIn (d + 1) tp (ptrV a) (ptrV b)).run P w = .ok (decide (a = b)) w := fun d => by
    by_cases hne : a = b
    · subst hne
      simp [Op.equalIn, run_underlying hp, sizeOf, typeInfo, hte, run_sameAddr_same]
    · have h := run_sameAddr_other (P := P) w (a := ⟨a, 0, none⟩) (b := ⟨b, 0, none⟩) (by simp [hne]) ha hb
      simp [Op.equalIn, run_underlying hp, sizeOf, typeInfo, hte, hsz, h, hne]
  exact key 9999
/-- The entry at a key. -/
def lkp : List (Nat × Value) → Nat → Option Value
  | [], _ => none
  | p :: l, a => if a = p.1 then some p.2 else lkp l a
def lkI : List (Nat × Value) → Nat → Nat → Option (Nat × Value)
  | [], _, _ => none
  | p :: l, a, i => if a = p.1 then some (i, p.2) else lkI l a (i + 1)
theorem lkI_map (l : List (Nat × Value)) : ∀ (a i : Nat), (lkI l a i).map (·.2) = lkp l a := by
  induction l with
  | nil => intro a i; rfl
  | cons p l ih => intro a i; unfold lkI lkp; split <;> simp [ih]
theorem lkI_get (l : List (Nat × Value)) : ∀ (a i k : Nat) (v : Value), lkI l a i = some (k, v) → i ≤ k ∧ l[k - i]? = some (a, v) := by
  induction l with
  | nil => intro a i k v h; cases h
  | cons p l ih =>
    intro a i k v h
    unfold lkI at h
    split at h
    · rename_i e
      cases h
      exact ⟨Nat.le_refl _, by simp [e]⟩
    · obtain ⟨h1, h2⟩ := ih a (i + 1) k v h
      refine ⟨by omega, ?_⟩
      rw [show k - i = (k - (i + 1)) + 1 by omega]
      simpa using h2
theorem lkp_mem (l : List (Nat × Value)) {a : Nat} (h : lkp l a = none) : ∀ p ∈ l, p.1 ≠ a := by
  induction l with
  | nil => intro p hp; cases hp
  | cons q l ih =>
    unfold lkp at h
    split at h
    · cases h
    · rename_i e
      intro p hp
      rcases List.mem_cons.1 hp with rfl | hp
      · exact fun h => e h.symm
      · exact ih h p hp
theorem lkp_app (l : List (Nat × Value)) (a : Nat) (v : Value) (k : Nat) (h : lkp l a = none) : lkp (l ++ [(a, v)]) k = if k = a then some v else lkp l k := by
  induction l with
  | nil => simp [lkp]
  | cons p l ih =>
    unfold lkp at h
    split at h
    · cases h
    · rename_i e
      simp only [List.cons_append]
      rw [lkp]
      by_cases hk : k = p.1
      · rw [if_pos hk, if_neg (fun h => e (by rw [← h, hk])), lkp, if_pos hk]
      · rw [if_neg hk, ih h, lkp.eq_2, if_neg hk]
theorem lkp_set (l : List (Nat × Value)) : ∀ (a i : Nat) (v : Value), l[i]? = some (a, v) → (l.map (·.1)).Nodup → ∀ (v' : Value) (k : Nat), lkp (l.set i (a, v')) k = if k = a then some v' else lkp l k := by
  induction l with
  | nil => intro a i v h; simp at h
  | cons p l ih =>
    intro a i v h hn v' k
    simp only [List.map_cons, List.nodup_cons] at hn
    cases i with
    | zero =>
      simp at h
      subst h
      simp only [List.set_cons_zero, lkp]
      split <;> rfl
    | succ i =>
      simp only [List.getElem?_cons_succ] at h
      have hm : a ∈ l.map (·.1) := List.mem_map.2 ⟨(a, v), List.mem_of_getElem? h, rfl⟩
      have hne : a ≠ p.1 := fun e => hn.1 (e ▸ hm)
      simp only [List.set_cons_succ]
      rw [lkp, ih a i v h hn.2 v' k]
      by_cases hk : k = p.1
      · rw [if_pos hk, if_neg (fun h => hne (by rw [← h, hk])), lkp, if_pos hk]
      · rw [if_neg hk, lkp.eq_2, if_neg hk]
theorem find_ptr (w : World) (hp : P.underlying tp = some (.pointer te)) (hte : P.info? te = some j) (hsz : j.size ≠ 0) {a : Nat} (ha : Plain w a) : ∀ (es : List MapEntry) (l : List (Nat × Value)) (i : Nat), es.map (fun e => (e.key, e.val)) = l.map (fun p => (ptrV p.1, p.2)) →
    (∀ p ∈ l, Plain w p.1) → (Instr.findAsking tp (ptrV a) es i).run P w = .ok (lkI l a i) w
  | [], l, i, h, _ => by
    cases l with
    | nil => rfl
    | cons p l => simp at h
  | e :: es, l, i, h, hpl => by
    cases l with
    | nil => simp at h
    | cons p l =>
      simp only [List.map_cons, List.cons.injEq, Prod.mk.injEq] at h
      obtain ⟨⟨h1, h2⟩, h3⟩ := h
      unfold Instr.findAsking
      rw [h1]
      simp only [Sem.run_bind, eq_ptr w hp hte hsz ha (hpl p (by simp)), Result.andThen_ok]
      unfold lkI
      by_cases hc : a = p.1
      · simp [hc, h2]
      · simp only [hc, decide_false, if_false, Bool.false_eq_true]
        exact find_ptr w hp hte hsz ha es l (i + 1) h3 (fun q hq => hpl q (by simp [hq]))
theorem findKey_ptr (w : World) (hp : P.underlying tp = some (.pointer te)) (hte : P.info? te = some j) (hsz : j.size ≠ 0) {a : Nat} (ha : Plain w a) (es : List MapEntry) (l : List (Nat × Value)) (h : es.map (fun e => (e.key, e.val)) = l.map (fun p => (ptrV p.1, p.2)))
    (hpl : ∀ p ∈ l, Plain w p.1) : (Instr.findKey tp (ptrV a) es).run P w = .ok (lkI l a 0) w := by
  unfold Instr.findKey
  simp only [Sem.run_bind, run_underlying hp, Result.andThen_ok]
  cases es with
  | nil =>
    cases l with
    | nil => rfl
    | cons p l => simp at h
  | cons e es =>
    have hn : Instr.findNow (.pointer te) (ptrV a) (e :: es) 0 = none := rfl
    rw [hn]
    exact find_ptr w hp hte hsz ha (e :: es) l 0 h hpl
theorem checkKey_ptr (w : World) (hp : P.underlying tp = some (.pointer te)) (em : Bool) (n : Nat) (v : Value) : (Instr.checkKey em (n + 1) tp v).run P w = .ok () w := by
  unfold Instr.checkKey
  simp only [Sem.run_bind, run_underlying hp, Result.andThen_ok]
  rfl
end
/-- Block b is a map that holds this. -/
def PM (w : World) (b : Nat) (m : Nat → Option Value) : Prop :=
  ∃ es clock, ∃ l : List (Nat × Value), w.heap[b]? = some (.map es clock) ∧ es.toList.map (fun e => (e.key, e.val)) = l.map (fun p => (ptrV p.1, p.2)) ∧ (l.map (·.1)).Nodup ∧ (∀ a, m a = lkp l a) ∧ ∀ p ∈ l, Plain w p.1
def setM (m : Nat → Option Value) (a : Nat) (v : Value) : Nat → Option Value := fun k => if k = a then some v else m k
theorem setM_same (m : Nat → Option Value) (a : Nat) (v : Value) : setM m a v a = some v := if_pos rfl
theorem setM_ne (m : Nat → Option Value) {a k : Nat} (v : Value) (h : k ≠ a) : setM m a v k = m k := if_neg h
theorem PM.made (w : World) : PM (w.alloc (.map #[] 0)) w.heap.size (fun _ => none) := ⟨#[], 0, [], heap_alloc_new, rfl, by simp, fun _ => rfl, fun p hp => by cases hp⟩
theorem PM.lt {w : World} {b : Nat} {m : Nat → Option Value} (h : PM w b m) : b < w.heap.size := by obtain ⟨_, _, _, h, _⟩ := h; exact heap_lt h
theorem lkp_some (l : List (Nat × Value)) {p : Nat × Value} (hp : p ∈ l) : (lkp l p.1).isSome = true := by
  cases h : lkp l p.1 with
  | none => exact absurd rfl (lkp_mem l h p hp)
  | some v => rfl
theorem PM.only {S : Nat → Prop} {w w' : World} {b : Nat} {m : Nat → Option Value} (h : PM w b m) (ho : Only S w w') (hb : ¬ S b) (hk : ∀ a, (m a).isSome = true → ¬ S a) : PM w' b m := by
  have hl := h.lt
  obtain ⟨es, clock, l, h1, h2, h3, h4, h5⟩ := h
  exact ⟨es, clock, l, (ho.block b hl hb).trans h1, h2, h3, h4, fun p hp => (h5 p hp).only ho (hk p.1 (by rw [h4]; exact lkp_some l hp))⟩
theorem PM.below {w w' : World} {b : Nat} {m : Nat → Option Value} (h : PM w b m) (hb : Below w.heap.size w w') : PM w' b m := by
  have hl := h.lt
  have ho := Only.of_below hb
  obtain ⟨es, clock, l, h1, h2, h3, h4, h5⟩ := h
  exact ⟨es, clock, l, (hb.block b hl).trans h1, h2, h3, h4, fun p hp => (h5 p hp).only ho (Nat.not_le.2 (h5 p hp).lt)⟩
theorem PM.drewN {w : World} {b : Nat} {m : Nat → Option Value} (h : PM w b m) (n : Nat) : PM (w.drewN n) b m := h
section
variable {P : Program} {t tp te e : TypeId} {j : TypeInfo} {w : World}
theorem PM.look {b : Nat} {m : Nat → Option Value} (h : PM w b m) (ht : P.underlying t = some (.map tp e)) (hp : P.underlying tp = some (.pointer te)) (hte : P.info? te = some j) (hsz : j.size ≠ 0) {z : Value} (hz : (zeroValue e).run P w = .ok z w) {a : Nat} (ha : Plain w a) (c : Bool) :
    (Instr.lookup t (.map (some b)) (ptrV a) c).run P w = .ok (if c then .tuple #[(m a).getD z, .bool (m a).isSome] else (m a).getD z) w := by
  obtain ⟨es, clock, l, h1, h2, h3, h4, h5⟩ := h
  have hf := findKey_ptr w hp hte hsz ha es.toList l h2 h5
  have hm := lkI_map l a 0
  rw [← h4] at hm
  rw [← hm]
  simp only [Instr.lookup, Sem.run_bind, run_underlying ht, Result.andThen_ok, MapKept.run_getObj_map h1, checkKey_ptr w hp, hf, Sem.run_pure]
  cases lkI l a 0 with
  | none => simp [hz, Sem.run_bind]
  | some p => simp
theorem PM.put {b : Nat} {m : Nat → Option Value} (h : PM w b m) (ht : P.underlying t = some (.map tp e)) (hp : P.underlying tp = some (.pointer te)) (hte : P.info? te = some j) (hsz : j.size ≠ 0) {a : Nat} (ha : Plain w a) (v : Value) :
    ∃ w', (Instr.mapUpdate t (.map (some b)) (ptrV a) v).run P w = .ok () w' ∧ PM w' b (setM m a v) ∧ Only (fun k => k = b) w w' := by
  obtain ⟨es, clock, l, h1, h2, h3, h4, h5⟩ := h
  have hf := findKey_ptr w hp hte hsz ha es.toList l h2 h5
  have hm := lkI_map l a 0
  have hlt := heap_lt h1
  have hO : ∀ o, Only (fun k => k = b) w { w with heap := w.heap.setIfInBounds b o } := fun o => ⟨rfl, rfl, rfl, by simp, fun k hk hne => by
    simp only
    rw [Array.getElem?_setIfInBounds_ne (fun e => hne e.symm)]⟩
  have hat : ∀ o, ({ w with heap := w.heap.setIfInBounds b o } : World).heap[b]? = some o := fun o => by
    simp only
    rw [Array.getElem?_setIfInBounds_self]; simp [hlt]
  have hmb : ¬ Plain w b := fun ⟨_, _, h⟩ => by rw [h1] at h; cases h
  cases hk : lkI l a 0 with
  | none =>
    rw [hk] at hm
    refine ⟨{ w with heap := w.heap.setIfInBounds b (.map (es.push ⟨ptrV a, v, clock⟩) (clock + 1)) }, ?_, ⟨es.push ⟨ptrV a, v, clock⟩, clock + 1, l ++ [(a, v)], hat _, by simp [h2], ?_, fun k => ?_, fun p hp => ?_⟩, hO _⟩
    · simp only [Instr.mapUpdate, Sem.run_bind, run_underlying ht, Result.andThen_ok, MapKept.run_getObj_map h1, checkKey_ptr w hp, hf, hk, MapKept.run_setObj_map _ h1]
    · rw [List.map_append, List.nodup_append]
      refine ⟨h3, by simp, fun x hx y hy => ?_⟩
      obtain ⟨q, hq, rfl⟩ := List.mem_map.1 hx
      simp at hy
      subst hy
      exact lkp_mem l hm.symm q hq
    · rw [lkp_app l a v k hm.symm, ← h4]; rfl
    · rcases List.mem_append.1 hp with hp | hp
      · exact (h5 p hp).only (hO _) (fun e => hmb (e ▸ h5 p hp))
      · rw [List.mem_singleton.1 hp]; exact ha.only (hO _) (fun e => hmb (e ▸ ha))
  | some q =>
    obtain ⟨i, v0⟩ := q
    obtain ⟨_, hg⟩ := lkI_get l a 0 i v0 hk
    rw [Nat.sub_zero] at hg
    have hlen : es.toList.length = l.length := by have := congrArg List.length h2; simpa using this
    have hil : i < l.length := by
      rcases Nat.lt_or_ge i l.length with h | h
      · exact h
      · rw [List.getElem?_eq_none h] at hg; cases hg
    have hie : i < es.size := by rw [← Array.length_toList, hlen]; exact hil
    have hei : es[i]? = some es[i] := Array.getElem?_eq_getElem hie
    have hkv : (es[i].key, es[i].val) = (ptrV a, v0) := by
      have := congrArg (fun L => L[i]?) h2
      simp only [List.getElem?_map, hg, Option.map_some] at this
      rw [Array.getElem?_toList, hei] at this
      simpa using this
    have hke : es[i].key = ptrV a := congrArg Prod.fst hkv
    have hst : (Instr.keyThatStays (ptrV a) (ptrV a)).run P w = .ok (ptrV a) w := by
      unfold Instr.keyThatStays
      rw [show Instr.sameBits 10000 (ptrV a) (ptrV a) = true by unfold Instr.sameBits; simp]
      rfl
    refine ⟨{ w with heap := w.heap.setIfInBounds b (.map (es.modify i fun e => { e with key := ptrV a, val := v }) clock) }, ?_, ⟨_, clock, l.set i (a, v), hat _, ?_, ?_, fun k => ?_, fun p hp => ?_⟩, hO _⟩
    · simp only [Instr.mapUpdate, Sem.run_bind, run_underlying ht, Result.andThen_ok, MapKept.run_getObj_map h1, checkKey_ptr w hp, hf, hk]
      rw [hei]
      simp only [Option.map_some, Option.getD_some, hke, hst, Result.andThen_ok, MapKept.run_setObj_map _ h1]
    · apply List.ext_getElem?
      intro n
      have hn := congrArg (fun L => L[n]?) h2
      simp only [List.getElem?_map, Array.getElem?_toList, Array.getElem?_modify, List.getElem?_set] at hn ⊢
      by_cases hni : i = n
      · subst hni
        simp [hei, hil]
      · simp only [hni, if_false]; exact hn
    · rw [List.map_set]
      have : (l.map (·.1)).set i a = l.map (·.1) := by
        apply List.ext_getElem?
        intro n
        rw [List.getElem?_set]
        split
        · rename_i e; subst e; rw [if_pos (by simpa using hil), List.getElem?_map, hg]; rfl
        · rfl
      rw [this]; exact h3
    · rw [lkp_set l a i v0 hg h3 v k, ← h4]; rfl
    · rcases List.mem_or_eq_of_mem_set hp with hp | rfl
      · exact (h5 p hp).only (hO _) (fun e => hmb (e ▸ h5 p hp))
      · exact ha.only (hO _) (fun e => hmb (e ▸ ha))
end
end Go.Proofs.YtgnoikfmhncbmaaGreatDoor
