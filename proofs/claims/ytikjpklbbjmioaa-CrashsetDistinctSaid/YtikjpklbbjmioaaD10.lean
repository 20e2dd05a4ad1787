/- The program's device: Fence. -/
import Derived.Test.YtikjpklbbjmioaaD9
namespace Go.Proofs.Ytikjpklbbjmioaa
open Go.RowKit Go.Maps Go.ChangeMaps Go.MapKept Go.WideShapes
variable {w : World} {F : Own} {o T : Nat} {L : Lay} {R : Dv}

/-! ### what a fence makes of the lines, in any order of the notes -/
def fenL (l : Ln) (c : Nat) : Ln := if l.done < c then persistL l (c - l.done) else l
def midLs (R : Dv) (f : Nat → Option Nat) (left : Lit → Bool) : List Ln :=
  (List.range R.lines.length).map fun i => match f i with | none => R.line i | some c => if left (.int .i64 i) then R.line i else fenL (R.line i) c
def midD (R : Dv) (f : Nat → Option Nat) (left : Lit → Bool) : Dv := { R with lines := midLs R f left }
theorem midLs_get (R : Dv) (f : Nat → Option Nat) (left : Lit → Bool) (i : Nat) (h : i < R.lines.length) :
    (midLs R f left)[i]? = some (match f i with | none => R.line i | some c => if left (.int .i64 i) then R.line i else fenL (R.line i) c) := by
  unfold midLs; rw [List.getElem?_map, List.getElem?_range h]; rfl
theorem midD_len (R : Dv) (f : Nat → Option Nat) (left : Lit → Bool) : (midD R f left).lines.length = R.lines.length := by simp [midD, midLs]
theorem midD_line (R : Dv) (f : Nat → Option Nat) (left : Lit → Bool) (i : Nat) (h : i < R.lines.length) (hl : left (.int .i64 i) = true) : (midD R f left).line i = R.line i := by
  unfold Dv.line midD
  rw [getD_of ln0 (midLs_get R f left i h)]
  cases f i with
  | none => rfl
  | some c => simp only [hl, if_true]; rfl
theorem lines_ext {a b : List Ln} (hl : a.length = b.length) (h : ∀ i, i < a.length → a.getD i ln0 = b.getD i ln0) : a = b := by
  apply List.ext_getElem?
  intro i
  rcases Nat.lt_or_ge i a.length with h1 | h1
  · rw [get_of_lt ln0 h1, get_of_lt ln0 (by omega), h i h1]
  · rw [List.getElem?_eq_none h1, List.getElem?_eq_none (by omega)]
theorem midD_start (R : Dv) (f : Nat → Option Nat) (left : Lit → Bool) (h : ∀ l : Nat, (f l).isSome = true → left (.int .i64 l) = true) : midD R f left = R := by
  have e : midLs R f left = R.lines := by
    refine lines_ext (by simp [midLs]) fun i hi => ?_
    have hi' : i < R.lines.length := by simpa [midLs] using hi
    rw [getD_of ln0 (midLs_get R f left i hi')]
    have := h i
    cases hq : f i with
    | none => rfl
    | some c => rw [hq] at this; simp only [this rfl, if_true]; rfl
  unfold midD; rw [e]
theorem midD_step (R : Dv) (f : Nat → Option Nat) (left : Lit → Bool) (k c : Nat) (hk : k < R.lines.length) (hc : f k = some c) :
    midD R f (fun z => left z && !z.sameKey (.int .i64 k)) = (midD R f left).setLine k (fenL (R.line k) c) := by
  have e : midLs R f (fun z => left z && !z.sameKey (.int .i64 k)) = (midLs R f left).set k (fenL (R.line k) c) := by
    apply List.ext_getElem?
    intro l
    by_cases hl : l < R.lines.length
    · rw [midLs_get _ _ _ _ hl, List.getElem?_set]
      by_cases hkl : k = l
      · subst hkl
        rw [if_pos rfl, if_pos (by simp [midLs]; exact hk), hc]
        simp [Go.WideAt.sameKey_self (a := .int .i64 (k : Int)) trivial]
      · rw [if_neg hkl, midLs_get _ _ _ _ hl]
        have : (Lit.int .i64 (l : Int)).sameKey (.int .i64 (k : Int)) = false := sameKey_ne (by intro h; injection h with _ h; omega)
        simp only [this, Bool.not_false, Bool.and_true]
    · rw [List.getElem?_eq_none (by simp [midLs]; omega), List.getElem?_eq_none (by simp [midLs]; omega)]
  unfold midD Dv.setLine; rw [e]
theorem fenceS_eq (ls : List Ln) (x : Nat × Nat) : fenceS ls x = ls.set x.1 (fenL (ls.getD x.1 ln0) x.2) := by
  unfold fenceS fenL
  split
  · rfl
  · rw [set_getD_self]
theorem fold_fence : ∀ (ns : List (Nat × Nat)) (ls : List Ln), (ns.map Prod.fst).Nodup → (∀ x ∈ ns, x.1 < ls.length) →
    (ns.foldl fenceS ls).length = ls.length ∧ ∀ i, i < ls.length → (ns.foldl fenceS ls).getD i ln0 = match noteF ns i with | none => ls.getD i ln0 | some c => fenL (ls.getD i ln0) c
  | [], ls, _, _ => ⟨rfl, fun i _ => rfl⟩
  | x :: ns, ls, hn, hx => by
    rw [List.map_cons, List.nodup_cons] at hn
    obtain ⟨h1, h2⟩ := hn
    rw [List.foldl_cons, fenceS_eq]
    have hx1 := hx x (List.mem_cons_self ..)
    obtain ⟨a, b⟩ := fold_fence ns (ls.set x.1 (fenL (ls.getD x.1 ln0) x.2)) h2 (fun y hy => by simpa using hx y (List.mem_cons_of_mem _ hy))
    refine ⟨by simpa using a, fun i hi => ?_⟩
    rw [b i (by simpa using hi), getD_set _ _ _ _ _ hx1]
    by_cases e : i = x.1
    · subst e
      have e1 : noteF ns x.1 = none := by
        unfold noteF
        rw [List.find?_eq_none.2]; rfl
        intro y hy hd
        simp only [decide_eq_true_eq] at hd
        exact h1 (by rw [← hd]; exact List.mem_map_of_mem hy)
      have e2 : noteF (x :: ns) x.1 = some x.2 := by unfold noteF; simp
      rw [e1, e2]; simp only [if_true]
    · have e2 : noteF (x :: ns) i = noteF ns i := by
        unfold noteF; rw [List.find?_cons, decide_eq_false (fun h => e h.symm)]
      rw [e2]; simp only [if_neg e]
theorem midD_end (h : R.Ok T) {t : Nat} (ht : t < 8) (left : Lit → Bool) (hl : ∀ kl, left kl = false) : midLs R (noteF (R.notes.getD t [])) left = (R.notes.getD t []).foldl fenceS R.lines := by
  obtain ⟨a, b⟩ := fold_fence (R.notes.getD t []) R.lines (h.nd t ht) (fun x hx => (h.no t ht x hx).1)
  refine lines_ext (by rw [a]; simp [midLs]) fun i hi => ?_
  have hi' : i < R.lines.length := by simpa [midLs] using hi
  rw [getD_of ln0 (midLs_get R _ left i hi'), b i hi']
  cases noteF (R.notes.getD t []) i with
  | none => rfl
  | some c => simp only [hl]; rfl
theorem noteF_mem {ns : List (Nat × Nat)} {l c : Nat} (h : noteF ns l = some c) : (l, c) ∈ ns := by
  unfold noteF at h
  cases hq : ns.find? (fun x => decide (x.1 = l)) with
  | none => rw [hq] at h; cases h
  | some x =>
    rw [hq] at h
    have h1 := List.find?_some hq
    have h2 := List.mem_of_find?_eq_some hq
    simp only [decide_eq_true_eq] at h1
    simp only [Option.map_some, Option.some.injEq] at h
    obtain ⟨a, b⟩ := x
    simp only at h1 h; subst h1 h; exact h2
theorem fenL_same (l : Ln) {c : Nat} (h : c ≤ l.done + l.hist.length) : (fenL l c).done + (fenL l c).hist.length = l.done + l.hist.length := by
  unfold fenL
  split
  · simp only [persistL, List.length_drop]; omega
  · rfl
theorem cleared_ok (h : R.Ok T) (t : Nat) : ({ R with notes := R.notes.set t [] } : Dv).Ok T := by
  refine ⟨h.t, h.n1, h.n2, h.ln, by simpa using h.nl, fun t' ht' => ?_, fun t' ht' x hx => ?_, h.el, h.ev, h.l1, h.l2, h.x⟩
  · by_cases e : t' = t
    · subst e; rw [show (R.notes.set t' []).getD t' [] = [] from by rw [List.getD, List.getElem?_set_self (by rw [h.nl]; exact ht')]; rfl]; exact List.nodup_nil
    · rw [show (R.notes.set t []).getD t' [] = R.notes.getD t' [] from by rw [List.getD, List.getElem?_set_ne (Ne.symm e)]; rfl]; exact h.nd t' ht'
  · by_cases e : t' = t
    · subst e; rw [show (R.notes.set t' []).getD t' [] = [] from by rw [List.getD, List.getElem?_set_self (by rw [h.nl]; exact ht')]; rfl] at hx; cases hx
    · rw [show (R.notes.set t []).getD t' [] = R.notes.getD t' [] from by rw [List.getD, List.getElem?_set_ne (Ne.symm e)]; rfl] at hx; exact h.no t' ht' x hx
/-- A thread's notes have been cleared. -/
theorem DevSt.cleared {w w' : World} (h : DevSt w F o L T R) {t : Nat} (ht : t < 8) (ho : Only (fun k => k = L.nb t) w w') (hn : NoteV w' (L.nb t) T R.lines.length (fun _ => none)) :
    DevSt w' F o L T { R with notes := R.notes.set t [] } := by
  have hF := (h.nov t ht).2
  have ne : ∀ {b : Nat} {r : Nat × Nat}, F b = some (o, r) → r ≠ (6, t) → ¬ b = L.nb t := fun hb hr => Own.ne hb hF (fun e => hr (by cases e; rfl))
  refine ⟨cleared_ok h.ok t, h.dev.only ho (ne h.fg (by simp)), h.fg, ownsRow_only h.per ho (by rintro k hk; cases hk; exact ne h.fp (by simp)), h.fp, ownsRow_only h.cur ho (by rintro k hk; cases hk; exact ne h.fc (by simp)), h.fc,
    h.lin.kept h.fl ho (Ext.refl _ _) (fun k s => ⟨fun e => ne e (by simp) s, fun i e => ne e (by simp) s⟩), h.fl, fun t' ht' => ?_, fun t' ht' => ?_⟩
  · obtain ⟨h1, h2⟩ := h.thr t' ht'; exact ⟨h1.only ho (ne h2 (by simp)), h2⟩
  · obtain ⟨h1, h2⟩ := h.nov t' ht'
    refine ⟨?_, h2⟩
    by_cases e : t' = t
    · subst e
      rw [show (({ R with notes := R.notes.set t' [] } : Dv).notes).getD t' [] = [] from by show (R.notes.set t' []).getD t' [] = _; rw [List.getD, List.getElem?_set_self (by rw [h.ok.nl]; exact ht')]; rfl]
      exact hn
    · rw [show (({ R with notes := R.notes.set t [] } : Dv).notes).getD t' [] = R.notes.getD t' [] from by show (R.notes.set t []).getD t' [] = _; rw [List.getD, List.getElem?_set_ne (Ne.symm e)]; rfl]
      exact h1.only ho (ne h2 (by simp [e]))

theorem run_clear {H : Type} {P : Program} {w : World} {k e t : TypeId} {R : Value → Option (DataW H × List MemPlace)} {b n : Nat} {D : DataW H} (ty : TypeId) (h : w.ownsMap P k R b n D) (ht : P.underlying t = some (.map k e)) :
    ∃ w', (Builtin.clear_ #[t] ty #[.map (some b)]).run P w = .ok (.tuple #[]) w' ∧ w'.ownsMap P k R b 0 (.map []) ∧ Only (fun j => j = b) w w' := by
  obtain ⟨es, clock, hb, F, hs, rfl⟩ := h
  refine ⟨setBlock w b (.map #[] clock), ?_, ⟨#[], clock, heap_setBlock_same hb _, ⟨by simp, ?_, by simp⟩, by simp, rfl⟩, ⟨rfl, rfl, rfl, by simp [setBlock], fun j hj hne => heap_setBlock_other hb _ hne⟩⟩
  · have h1 := MapKept.run_getObj_map (P := P) hb
    have h2 := MapKept.run_setObj_map (P := P) (.map #[] clock) hb
    simp [Builtin.clear_, run_underlying ht, h1, h2, setBlock]
  · exact stamped_empty clock
theorem wpList_clear {H : Type} {P : Program} {w : World} {ops : Array Oper} {rest : List Oper} {o : Oper} {a : Act} {Q : Exit → Act → World → Prop} (hgd : o.guard = none) (x : Operand) (t k e : TypeId)
    (ho : o.op = .call { callee := .builtin .clear, args := #[x], argTypes := #[t] }) (R : Value → Option (DataW H × List MemPlace)) (b n : Nat) (D : DataW H) (hx : a.eval x = .map (some b)) (hown : w.ownsMap P k R b n D) (ht : P.underlying t = some (.map k e))
    (h : ∀ w', w'.ownsMap P k R b 0 (.map []) → Only (fun j => j = b) w w' → wpList P ops Q rest (a.put o.dst (.tuple #[])) w') : wpList P ops Q (o :: rest) a w := by
  refine wpList_plain hgd fun K hK => ?_
  obtain ⟨w', hr, h2, h3⟩ := run_clear (P := P) o.type hown ht
  unfold Oper.wp execOp
  simp only [ho, resolve, invoke, builtin, Sem.run_bind, Sem.run_pure, Result.andThen_ok, List.map_toArray, List.map_cons, List.map_nil, hx, hr]
  exact hK _ _ (h w' h2 h3)
theorem ranges_only {H : Type} {P : Program} {k : TypeId} {Rr : Value → Option (DataW H × List MemPlace)} {w w' : World} {b r n : Nat} {D : DataW H} {left : Lit → Bool} {cnt : Nat} {S : Nat → Prop} (h : w.ranges P k Rr b r n D left cnt) (ho : Only S w w') (hb : ¬ S b) (hr : ¬ S r) :
    w'.ranges P k Rr b r n D left cnt ∧ w'.rangeLeft b r = w.rangeLeft b r := by
  have h1 := h.owns.lt
  have h2 := h.lt
  have e1 := ho.block b h1 hb
  have e2 := ho.block r h2 hr
  refine ⟨?_, by unfold World.rangeLeft; rw [e1, e2]⟩
  obtain ⟨es, clock, since, seen, c0, hb', F, hs, hD, hr', rest⟩ := h
  exact ⟨es, clock, since, seen, c0, e1.trans hb', F, hs, hD, e2.trans hr', rest⟩
end Go.Proofs.Ytikjpklbbjmioaa
