/- Arguments: an event, a slice of events, a run. -/
import Derived.Test.YtikjpklbbjmioaaG3
import Derived.Deep.Slices
import Derived.Deep.Fields
import Derived.ChangeSame
namespace Go.Proofs.Ytikjpklbbjmioaa
open Go.RowKit Go.ChangeShapes Go.WideShapes Go.Deep

theorem evts_list {w : World} {b off : Nat} : ∀ len : Nat, (∀ i, i < len → ∃ x : Evt, x.Fit ∧ ∀ j v, x.cells[j]? = some v → w.cell? ⟨b, off + i * 6 + j, none⟩ = some v) →
    ∃ xs : List Evt, xs.length = len ∧ (∀ x ∈ xs, x.Fit) ∧ ∀ j u, (evtCells xs)[j]? = some u → w.cell? ⟨b, off + j, none⟩ = some u
  | 0, _ => ⟨[], rfl, by simp, by simp [evtCells]⟩
  | len + 1, h => by
    obtain ⟨xs, hl, hf, hc⟩ := evts_list len (fun i hi => h i (by omega))
    obtain ⟨x, hx, hxc⟩ := h len (by omega)
    have hal : (evtCells xs).length = len * 6 := by
      rw [← hl]
      clear hc hf hl
      induction xs with
      | nil => rfl
      | cons s l ih => simp only [evtCells, List.flatMap_cons, List.length_append, List.length_cons] at *; rw [ih]; show 6 + _ = _; omega
    refine ⟨xs ++ [x], by simp [hl], ?_, ?_⟩
    · intro y hy
      simp only [List.mem_append, List.mem_singleton] at hy
      rcases hy with hy | rfl
      · exact hf y hy
      · exact hx
    · intro j u hj
      have e : evtCells (xs ++ [x]) = evtCells xs ++ x.cells := by simp [evtCells]
      rw [e] at hj
      rcases Nat.lt_or_ge j (evtCells xs).length with h1 | h1
      · rw [List.getElem?_append_left h1] at hj; exact hc j u hj
      · rw [List.getElem?_append_right h1] at hj
        have := hxc _ u hj
        rw [hal] at this h1
        have e2 : off + len * 6 + (j - len * 6) = off + j := by omega
        rw [e2] at this
        exact this
theorem u64_lt {n : Int} (h : (Lit.int .u64 n).wf = true) : 0 ≤ n ∧ n < 18446744073709551616 := by
  simp only [Lit.wf, Bool.and_eq_true, decide_eq_true_eq] at h
  have e1 : IntKind.min .u64 = 0 := by decide
  have e2 : IntKind.max .u64 = 18446744073709551615 := by decide
  rw [e1, e2] at h
  omega
theorem i64_b {n : Int} (h : (Lit.int .i64 n).wf = true) : i64B n := by
  simp only [Lit.wf, Bool.and_eq_true, decide_eq_true_eq] at h
  have e1 : IntKind.min .i64 = -9223372036854775808 := by decide
  have e2 : IntKind.max .i64 = 9223372036854775807 := by decide
  rw [e1, e2] at h
  exact h
theorem cellsEv : Try.prog.cellsOf 84 = 6 := by kernel_rfl
theorem cellsRun : Try.prog.cellsOf 54 = 2 := by kernel_rfl
theorem cellsInt : Try.prog.cellsOf 3 = 1 := by kernel_rfl
theorem cellsU64 : Try.prog.cellsOf 22 = 1 := by kernel_rfl
theorem cellsSEv : Try.prog.cellsOf 52 = 1 := by kernel_rfl

section
variable {H : Type} {enc : TypeId × Value → H} {w : World} {base : Nat} {spare : Nat → Bool} {held : Bool}
theorem field_int {n : Nat} {cs : List Value} {f : Field} {v : Value} {y : DataW H × List MemPlace} (ht : f.type = 3) (hv : (cs.drop f.offset).take 1 = [v])
    (hh : DataW.trod enc Try.prog w base spare held n f.type ((cs.drop f.offset).take (Try.prog.cellsOf f.type)) = some y) : ∃ k : Int, v = .int .i64 k ∧ i64B k := by
  rw [ht, cellsInt, hv] at hh
  obtain ⟨k, hk, _, hw⟩ := DataW.trod_int Try.underlying3 hh
  simp only [List.cons.injEq, and_true] at hk
  exact ⟨k, hk, i64_b hw⟩
theorem field_u64 {n : Nat} {cs : List Value} {f : Field} {v : Value} {y : DataW H × List MemPlace} (ht : f.type = 22) (hv : (cs.drop f.offset).take 1 = [v])
    (hh : DataW.trod enc Try.prog w base spare held n f.type ((cs.drop f.offset).take (Try.prog.cellsOf f.type)) = some y) : ∃ k : Nat, v = .int .u64 (k : Int) ∧ k < 18446744073709551616 := by
  rw [ht, cellsU64, hv] at hh
  obtain ⟨k, hk, _, hw⟩ := DataW.trod_int Try.underlying22 hh
  obtain ⟨h0, h1⟩ := u64_lt hw
  obtain ⟨m, rfl⟩ := Int.eq_ofNat_of_zero_le h0
  simp only [List.cons.injEq, and_true] at hk
  exact ⟨m, hk, by omega⟩
set_option maxRecDepth 100000 in
theorem open_evt {fuel : Nat} {cs : List Value} {x : DataW H × List MemPlace} (h : DataW.trod enc Try.prog w base spare held fuel 84 cs = some x) : ∃ a : Evt, a.Fit ∧ cs = a.cells := by
  obtain ⟨xs, n, rfl, _, hcl, hxl, hf⟩ := DataW.trod_struct Try.underlying84 h
  rw [cellsEv] at hcl
  match cs, hcl with
  | [c0, c1, c2, c3, c4, c5], _ =>
    have hx6 : xs.length = 6 := hxl
    match xs, hx6 with
    | [y0, y1, y2, y3, y4, y5], _ =>
      obtain ⟨m0, rfl, b0⟩ := field_int (v := c0) rfl rfl (hf 0 _ rfl)
      obtain ⟨m1, rfl, b1⟩ := field_int (v := c1) rfl rfl (hf 1 _ rfl)
      obtain ⟨m2, rfl, b2⟩ := field_u64 (v := c2) rfl rfl (hf 2 _ rfl)
      obtain ⟨m3, rfl, b3⟩ := field_u64 (v := c3) rfl rfl (hf 3 _ rfl)
      obtain ⟨m4, rfl, b4⟩ := field_u64 (v := c4) rfl rfl (hf 4 _ rfl)
      obtain ⟨m5, rfl, b5⟩ := field_int (v := c5) rfl rfl (hf 5 _ rfl)
      exact ⟨⟨m0, m1, m2, m3, m4, m5⟩, ⟨b0, b1, b2, b3, b4, b5⟩, rfl⟩
theorem open_evts {fuel : Nat} {a0 : Option Addr} {len0 cap0 : Nat} {x : DataW H × List MemPlace} (h : DataW.trod enc Try.prog w base spare held fuel 52 [.slice a0 len0 cap0] = some x) :
    ∃ xs : List Evt, xs.length = len0 ∧ (∀ a ∈ xs, a.Fit) ∧ Rd w (.slice a0 len0 cap0) len0 (evtCells xs) ∧ len0 ≤ 9223372036854775807 := by
  rcases open_slice Try.underlying52 h with ⟨hc, _⟩ | ⟨a, len, cap, m, n, D, Pl, hc, _, hl, hm, hmm, _, hi⟩
  · simp only [List.cons.injEq, Value.slice.injEq, and_true] at hc
    obtain ⟨rfl, rfl, rfl⟩ := hc
    exact ⟨[], rfl, by simp, Rd.nil w, by omega⟩
  · simp only [List.cons.injEq, Value.slice.injEq, and_true] at hc
    obtain ⟨rfl, rfl, rfl⟩ := hc
    have hlm : len0 ≤ m := by rw [hmm]; split <;> omega
    have hmax : len0 ≤ 9223372036854775807 := by unfold maxLen at hm; omega
    by_cases h0 : len0 = 0
    · subst h0
      exact ⟨[], rfl, by simp, ⟨_, _, rfl, .inl ⟨rfl, rfl⟩⟩, by omega⟩
    · have step : ∀ i, i < len0 → ∃ ac : Evt, ac.Fit ∧ ∀ j v, ac.cells[j]? = some v → w.cell? ((a.add (i * 6)).add j) = some v := by
        intro i hil
        obtain ⟨cs', hcs, ht⟩ := hi i (by omega)
        rw [cellsEv] at hcs
        obtain ⟨ac, hf, rfl⟩ := open_evt ht
        obtain ⟨_, hcl, hat⟩ := World.cells?_some hcs
        refine ⟨ac, hf, fun j v hj => ?_⟩
        have hj6 : j < 6 := by
          rcases Nat.lt_or_ge j 6 with h1 | h1
          · exact h1
          · rw [List.getElem?_eq_none (by show 6 ≤ j; exact h1)] at hj; cases hj
        rw [hat j hj6]; exact hj
      obtain ⟨ac0, _, hc0⟩ := step 0 (by omega)
      have hz := hc0 0 _ rfl
      obtain ⟨b, off, spot⟩ := a
      have hs : spot = none := by
        have := World.cell?_spot hz
        simpa [Addr.add] using this
      subst hs
      obtain ⟨xs, h1, h2, h3⟩ := evts_list (w := w) (b := b) (off := off) len0 (fun i hil => by
        obtain ⟨ac, hf, hc⟩ := step i hil
        refine ⟨ac, hf, fun j v hj => ?_⟩
        have := hc j v hj
        have e : ((Addr.mk b off none).add (i * 6)).add j = ⟨b, off + i * 6 + j, none⟩ := by
          unfold Addr.add
          split <;> split <;> simp_all
        rw [e] at this
        exact this)
      exact ⟨xs, h1, h2, ⟨_, _, rfl, .inr ⟨b, off, rfl, h3⟩⟩, hmax⟩
/-- A run: its number, and its events. -/
structure RunIn (w : World) (lines : Int) (a : Option Addr) (c : Nat) (xs : List Evt) : Prop where
  l : i64B lines
  f : ∀ x ∈ xs, x.Fit
  r : Rd w (.slice a xs.length c) xs.length (evtCells xs)
  m : xs.length ≤ 9223372036854775807
set_option maxRecDepth 100000 in
theorem open_run {fuel : Nat} {cs : List Value} {x : DataW H × List MemPlace} (h : DataW.trod enc Try.prog w base spare held fuel 54 cs = some x) : ∃ lines a c xs, cs = [.int .i64 lines, .slice a xs.length c] ∧ RunIn w lines a c xs := by
  obtain ⟨xs, n, rfl, _, hcl, hxl, hf⟩ := DataW.trod_struct Try.underlying54 h
  rw [cellsRun] at hcl
  match cs, hcl with
  | [c0, c1], _ =>
    have hx2 : xs.length = 2 := hxl
    match xs, hx2 with
    | [y0, y1], _ =>
      obtain ⟨m0, rfl, b0⟩ := field_int (v := c0) rfl rfl (hf 0 _ rfl)
      have h1 : DataW.trod enc Try.prog w base spare held n 52 [c1] = some y1 := hf 1 _ rfl
      obtain ⟨a, l, c, hc⟩ : ∃ a l c, [c1] = [Value.slice a l c] := by
        rcases open_slice Try.underlying52 h1 with ⟨hcs, _⟩ | ⟨a', len', cap', m, n, D, Pl, hcs, _⟩
        · exact ⟨_, _, _, hcs⟩
        · exact ⟨_, _, _, hcs⟩
      simp only [List.cons.injEq, and_true] at hc
      subst hc
      obtain ⟨es, rfl, hfit, hr, hm⟩ := open_evts h1
      exact ⟨m0, a, c, es, rfl, b0, hfit, hr, hm⟩
end
theorem arr2 {α : Type} {cs : Array α} (h : cs.size = 2) : ∃ c0 c1, cs = #[c0, c1] := by
  obtain ⟨l⟩ := cs
  match l, h with
  | [c0, c1], _ => exact ⟨c0, c1, rfl⟩
theorem arr6 {α : Type} {cs : Array α} (h : cs.size = 6) : ∃ c0 c1 c2 c3 c4 c5, cs = #[c0, c1, c2, c3, c4, c5] := by
  obtain ⟨l⟩ := cs
  match l, h with
  | [c0, c1, c2, c3, c4, c5], _ => exact ⟨c0, c1, c2, c3, c4, c5, rfl⟩
end Go.Proofs.Ytikjpklbbjmioaa
