/- The undo log's Plan: the map of the saved words; what is fresh. -/
import Derived.Test.YtjmdibgncaljaaaUK
import Derived.Maps.Own
import Derived.Maps.OwnOps
import Derived.Maps.RangeWalk
namespace Go.Proofs.Ytjmdibgncaljaaa
open Go.RowKit Go.Lib Go.Maps Dev
theorem wpList_updateM {P : Program} {w w' : World} {ops : Array Oper} {rest : List Oper} {o : Oper} {a : Act} {Q : Exit → Act → World → Prop} (hgd : o.guard = none) (m x v : Operand) (t : TypeId)
    (ho : o.op = .mapUpdate t m x v) (hrun : (Instr.mapUpdate t (a.eval m) (a.eval x) (a.eval v)).run P w = .ok () w') (h : wpList P ops Q rest (a.put o.dst undef) w') : wpList P ops Q (o :: rest) a w := by
  refine wpList_plain hgd fun K hK => ?_
  unfold Oper.wp
  simp [execOp, ho, hrun, Result.andThen]
  exact hK _ _ h
/-- The map of the words seen. -/
def Rb64 : Value → Option (DataW Unit × List MemPlace)
  | .bool b => some (.lit (.bool b), [])
  | _ => none
theorem key64 : Keyed Try.prog 27 := int_keyed Try.underlying27
theorem wf_u64 {n : Nat} (h : n < 18446744073709551616) : (Lit.int .u64 (n : Int)).wf = true := by
  simp only [Lit.wf, Bool.and_eq_true, decide_eq_true_eq]
  have e1 : IntKind.min .u64 = 0 := by decide
  have e2 : IntKind.max .u64 = 18446744073709551615 := by decide
  rw [e1, e2]; omega
def Seen64 (w : World) (b : Nat) (K : List Nat) : Prop :=
  ∃ D : DataW Unit, w.ownsMap Try.prog 27 Rb64 b K.length D ∧ IsMap D ∧ ∀ k : Nat, k < 18446744073709551616 → D.atKey (.int .u64 k) (.lit (.bool false)) = .lit (.bool (decide (k ∈ K)))
theorem Seen64.only {S : Nat → Prop} {w w' : World} {b : Nat} {K : List Nat} (h : Seen64 w b K) (ho : Only S w w') (hs : ¬ S b) : Seen64 w' b K := by
  obtain ⟨D, h1, h2⟩ := h
  obtain ⟨es, cl, hb, r⟩ := h1
  exact ⟨D, ⟨es, cl, (ho.block b (heap_lt hb) hs).trans hb, r⟩, h2⟩
theorem Seen64.lt {w : World} {b : Nat} {K : List Nat} (h : Seen64 w b K) : b < w.heap.size := by
  obtain ⟨D, h1, _⟩ := h; exact h1.lt
theorem Seen64.below {w w' : World} {b : Nat} {K : List Nat} (h : Seen64 w b K) (hb : Below w.heap.size w w') : Seen64 w' b K := h.only (Only.of_below hb) (Nat.not_le.2 h.lt)
theorem Seen64.made (w : World) : Seen64 (w.alloc (.map #[] 0)) w.heap.size [] :=
  ⟨.map [], World.ownsMap_made w _ _ _, isMap_empty, fun k hk => by first | rfl | simp [DataW.atKey]⟩
theorem Seen64.look {w : World} {b : Nat} {K : List Nat} (h : Seen64 w b K) {k : Nat} (hk : k < 18446744073709551616) : (Instr.lookup 152 (.map (some b)) (.int .u64 (k : Int)) false).run Try.prog w = .ok (.bool (decide (k ∈ K))) w := by
  obtain ⟨D, h1, h2, h3⟩ := h
  obtain ⟨v, ps, hr, hv⟩ := h1.lookup key64 Try.underlying152 (z := .bool false) (by kernel_rfl) (zd := .lit (.bool false)) (zp := []) rfl (keyOf_int_mk Try.underlying27 (wf_u64 hk))
  rw [h3 k hk] at hv
  rw [hr]
  cases v with
  | bool b => simp [Rb64] at hv; rw [hv.1]
  | _ => simp [Rb64] at hv
theorem Seen64.put {w : World} {b : Nat} {K : List Nat} (h : Seen64 w b K) (hl : K.length ≤ 100) {k : Nat} (hk : k < 18446744073709551616) : ∃ w', (Instr.mapUpdate 152 (.map (some b)) (.int .u64 (k : Int)) (.bool true)).run Try.prog w = .ok () w' ∧ Seen64 w' b (K ++ [k]) ∧ Only (fun j => j = b) w w' := by
  obtain ⟨D, h1, h2, h3⟩ := h
  have hkey := keyOf_int_mk (P := Try.prog) Try.underlying27 (wf_u64 hk)
  obtain ⟨w', hr, hw, hg⟩ := h1.update key64 Try.underlying152 (by unfold maxLen; omega) (val := .bool true) (d := .lit (.bool true)) (ps := []) hkey rfl
  refine ⟨w', hr, ⟨_, by rw [List.length_append]; exact hw, h2.put _ _, fun j hj => ?_⟩, (Only.of_grown hg).mono (fun j _ e => by simpa using e)⟩
  by_cases he : j = k
  · subst he
    rw [atKey_put_same h2 (key64.key hkey)]
    simp
  · rw [atKey_put_other (by intro h; injection h with _ h; omega), h3 j hj]
    simp [he]
/-- The words that are not saved yet, each once. -/
def freshO (K : List Nat) : List Nat → List Nat
  | [] => []
  | o :: l => if o ∈ K then freshO K l else o :: freshO (K ++ [o]) l
/-- The keys after some words. -/
def keysO (K : List Nat) : List Nat → List Nat
  | [] => K
  | o :: l => if o ∈ K then keysO K l else keysO (K ++ [o]) l
theorem freshO_cons_in {K : List Nat} {o : Nat} {l : List Nat} (h : o ∈ K) : freshO K (o :: l) = freshO K l := by rw [freshO]; rw [if_pos h]
theorem freshO_cons_out {K : List Nat} {o : Nat} {l : List Nat} (h : o ∉ K) : freshO K (o :: l) = o :: freshO (K ++ [o]) l := by rw [freshO]; rw [if_neg h]
theorem keysO_cons_in {K : List Nat} {o : Nat} {l : List Nat} (h : o ∈ K) : keysO K (o :: l) = keysO K l := by rw [keysO]; rw [if_pos h]
theorem keysO_cons_out {K : List Nat} {o : Nat} {l : List Nat} (h : o ∉ K) : keysO K (o :: l) = keysO (K ++ [o]) l := by rw [keysO]; rw [if_neg h]
theorem freshO_in : ∀ (l : List Nat) (K : List Nat) (o : Nat), o ∈ keysO K l → freshO K (l ++ [o]) = freshO K l ∧ keysO K (l ++ [o]) = keysO K l
  | [], K, o, h => ⟨freshO_cons_in h, keysO_cons_in h⟩
  | x :: l, K, o, h => by
    rw [List.cons_append]
    by_cases hx : x ∈ K
    · rw [keysO_cons_in hx] at h
      rw [freshO_cons_in hx, freshO_cons_in hx, keysO_cons_in hx, keysO_cons_in hx]; exact freshO_in l K o h
    · rw [keysO_cons_out hx] at h
      rw [freshO_cons_out hx, freshO_cons_out hx, keysO_cons_out hx, keysO_cons_out hx]
      obtain ⟨h1, h2⟩ := freshO_in l (K ++ [x]) o h
      exact ⟨by rw [h1], h2⟩
theorem freshO_out : ∀ (l : List Nat) (K : List Nat) (o : Nat), o ∉ keysO K l → freshO K (l ++ [o]) = freshO K l ++ [o] ∧ keysO K (l ++ [o]) = keysO K l ++ [o]
  | [], K, o, h => ⟨freshO_cons_out h, keysO_cons_out h⟩
  | x :: l, K, o, h => by
    rw [List.cons_append]
    by_cases hx : x ∈ K
    · rw [keysO_cons_in hx] at h
      rw [freshO_cons_in hx, freshO_cons_in hx, keysO_cons_in hx, keysO_cons_in hx]; exact freshO_out l K o h
    · rw [keysO_cons_out hx] at h
      rw [freshO_cons_out hx, freshO_cons_out hx, keysO_cons_out hx, keysO_cons_out hx]
      obtain ⟨h1, h2⟩ := freshO_out l (K ++ [x]) o h
      exact ⟨by rw [h1]; rfl, h2⟩
theorem keysO_len : ∀ (l : List Nat) (K : List Nat), (keysO K l).length ≤ K.length + l.length
  | [], K => Nat.le_refl _
  | x :: l, K => by
    simp only [keysO, List.length_cons]
    split
    · have := keysO_len l K; omega
    · have := keysO_len l (K ++ [x]); simp at this; omega
theorem freshO_len : ∀ (l : List Nat) (K : List Nat), (freshO K l).length ≤ l.length
  | [], K => Nat.le_refl _
  | x :: l, K => by
    simp only [freshO, List.length_cons]
    split
    · have := freshO_len l K; omega
    · have := freshO_len l (K ++ [x]); simp at this ⊢; omega
theorem freshO_mem : ∀ (l : List Nat) (K : List Nat) (o : Nat), o ∈ freshO K l → o ∈ l
  | [], K, o, h => h
  | x :: l, K, o, h => by
    unfold freshO at h
    split at h
    · exact List.mem_cons_of_mem _ (freshO_mem l K o h)
    · rcases List.mem_cons.1 h with h | h
      · rw [h]; exact List.mem_cons_self ..
      · exact List.mem_cons_of_mem _ (freshO_mem l _ o h)
/-- Every word is saved already, or fresh. -/
theorem freshO_cov : ∀ (l : List Nat) (K : List Nat) (o : Nat), o ∈ l → o ∈ K ∨ o ∈ freshO K l
  | x :: l, K, o, h => by
    unfold freshO
    by_cases hx : x ∈ K
    · rw [if_pos hx]
      rcases List.mem_cons.1 h with h | h
      · left; rw [h]; exact hx
      · exact freshO_cov l K o h
    · rw [if_neg hx]
      rcases List.mem_cons.1 h with h | h
      · right; rw [h]; exact List.mem_cons_self ..
      · rcases freshO_cov l (K ++ [x]) o h with g | g
        · rcases List.mem_append.1 g with g | g
          · exact .inl g
          · right; rw [List.mem_singleton.1 g]; exact List.mem_cons_self ..
        · exact .inr (List.mem_cons_of_mem _ g)
/-- What a save adds to the log. -/
def freshF (R : Dv) (E : List (Nat × Nat)) (offs : List Nat) : List (Nat × Nat) := (freshO (E.map Prod.fst) offs).map fun o => (o, valueP R o)
theorem entW_snoc : ∀ (l : List (Nat × Nat)) (n : Nat) (p : Nat × Nat), entW n (l ++ [p]) = entW n l ++ [(64 + 16 * (n + l.length), p.1), (72 + 16 * (n + l.length), p.2)]
  | [], n, p => rfl
  | q :: l, n, p => by
    have h := entW_snoc l (n + 1) p
    simp only [List.cons_append, entW, List.length_cons] at h ⊢
    rw [h, show n + 1 + l.length = n + (l.length + 1) by omega]
theorem entW_len : ∀ (l : List (Nat × Nat)) (n : Nat), (entW n l).length = 2 * l.length
  | [], n => rfl
  | q :: l, n => by
    have h := entW_len l (n + 1)
    simp only [entW, List.length_cons] at h ⊢
    omega
/-- While Plan gathers what is fresh: the map, and the row of the fresh words. -/
structure PlX (w2 : World) (K : List Nat) (F : List (Nat × Nat)) (m : Nat) (sa : Option Addr) (sc : Nat) (wr : World) : Prop where
  ln : F.length = m
  s : Seen64 wr w2.heap.size K
  o : wr.ownsRow 0 133 2 (.slice sa m sc) m (wcells F)
  ob : ∀ k, Value.ownBlock (.slice sa m sc) = some k → w2.heap.size < k
  b : Below w2.heap.size w2 wr
theorem PlX.below {w2 wr wr2 : World} {K : List Nat} {F : List (Nat × Nat)} {m : Nat} {sa : Option Addr} {sc : Nat} (h : PlX w2 K F m sa sc wr) (hb : Below wr.heap.size wr wr2) : PlX w2 K F m sa sc wr2 :=
  ⟨h.ln, h.s.below hb, ownsRow_only h.o (Only.of_below hb) (fun k hk e => by have := ownsRow_lt h.o hk; omega), h.ob, h.b.trans (hb.mono h.b.size)⟩
theorem PlX.put {w2 wr wr2 : World} {K K' : List Nat} {F : List (Nat × Nat)} {m : Nat} {sa : Option Addr} {sc : Nat} (h : PlX w2 K F m sa sc wr) (hs : Seen64 wr2 w2.heap.size K') (ho : Only (fun j => j = w2.heap.size) wr wr2) : PlX w2 K' F m sa sc wr2 :=
  ⟨h.ln, hs, ownsRow_only h.o ho (fun k hk e => by have := h.ob k hk; omega), h.ob, h.b.trans (ho.below (B := w2.heap.size) h.b.size (fun k _ e => by omega))⟩
theorem PlX.app {w2 w1 w' : World} {K : List Nat} {F : List (Nat × Nat)} {p : Nat × Nat} {m : Nat} {sa sa' : Option Addr} {sc sc' : Nat} (h : PlX w2 K F m sa sc w1)
    (own : w'.ownsRow 0 133 2 (.slice sa' (m + 1) sc') (m + 1) (wcells F ++ [.int .u64 (p.1 : Int), .int .u64 (p.2 : Int)])) (only : Only (fun k => Value.ownBlock (.slice sa m sc) = some k) w1 w')
    (fresh : ∀ k, Value.ownBlock (.slice sa' (m + 1) sc') = some k → Value.ownBlock (.slice sa m sc) = some k ∨ w1.heap.size ≤ k) : PlX w2 K (F ++ [p]) (m + 1) sa' sc' w' := by
  have hs := h.b.size
  have hl := h.s.lt
  refine ⟨by rw [List.length_append, h.ln]; rfl, h.s.only only (fun e => by have := h.ob _ e; omega), by rw [wcells_snoc]; exact own, fun k hk => ?_, h.b.trans (only.below (B := w2.heap.size) hs (fun k _ e => by have := h.ob k e; omega))⟩
  rcases fresh k hk with h1 | h1
  · exact h.ob k h1
  · omega
end Go.Proofs.Ytjmdibgncaljaaa
