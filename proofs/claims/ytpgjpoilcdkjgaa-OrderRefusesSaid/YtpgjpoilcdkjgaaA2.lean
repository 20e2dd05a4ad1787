/- An argument that is a slice of events. -/
import Derived.Test.YtpgjpoilcdkjgaaU4
import Derived.Test.YtpgjpoilcdkjgaaA1
namespace Go.Proofs.Ytpgjpoilcdkjgaa
open Go.RowKit Go.ChangeShapes Go.WideShapes Go.Deep

theorem flatList {f : GE → List Value} (hf8 : ∀ e, (f e).length = 8) {w : World} {b off : Nat} : ∀ len : Nat, (∀ i, i < len → ∃ e : GE, e.Fit ∧ ∀ j v, (f e)[j]? = some v → w.cell? ⟨b, off + i * 8 + j, none⟩ = some v) →
    ∃ es : List GE, es.length = len ∧ (∀ e ∈ es, e.Fit) ∧ ∀ j u, (es.flatMap f)[j]? = some u → w.cell? ⟨b, off + j, none⟩ = some u
  | 0, _ => ⟨[], rfl, by simp, by simp⟩
  | len + 1, h => by
    obtain ⟨es, hl, hf, hc⟩ := flatList hf8 len (fun i hi => h i (by omega))
    obtain ⟨e, he, hec⟩ := h len (by omega)
    have hal : (es.flatMap f).length = len * 8 := by rw [flat8_len hf8, hl]; omega
    refine ⟨es ++ [e], by simp [hl], ?_, ?_⟩
    · intro x hx
      simp only [List.mem_append, List.mem_singleton] at hx
      rcases hx with hx | rfl
      · exact hf x hx
      · exact he
    · intro j u hj
      have e0 : (es ++ [e]).flatMap f = es.flatMap f ++ f e := by simp
      rw [e0] at hj
      rcases Nat.lt_or_ge j (es.flatMap f).length with h1 | h1
      · rw [List.getElem?_append_left h1] at hj; exact hc j u hj
      · rw [List.getElem?_append_right h1] at hj
        have := hec _ u hj
        rw [hal] at this h1
        have e2 : off + len * 8 + (j - len * 8) = off + j := by omega
        rw [e2] at this
        exact this
theorem u64_lt {n : Int} (h : (Lit.int .u64 n).wf = true) : 0 ≤ n ∧ n < 18446744073709551616 := by
  simp only [Lit.wf, Bool.and_eq_true, decide_eq_true_eq] at h
  have e1 : IntKind.min .u64 = 0 := by decide
  have e2 : IntKind.max .u64 = 18446744073709551615 := by decide
  rw [e1, e2] at h
  omega
theorem cells65 : Try.prog.cellsOf 65 = 8 := by kernel_rfl
theorem cells63 : Try.prog.cellsOf 63 = 1 := by kernel_rfl
theorem cells3 : Try.prog.cellsOf 3 = 1 := by kernel_rfl
theorem cells42 : Try.prog.cellsOf 42 = 1 := by kernel_rfl
theorem cells46 : Try.prog.cellsOf 46 = 1 := by kernel_rfl

section
variable {H : Type} {enc : TypeId × Value → H} {w : World} {base : Nat} {spare : Nat → Bool} {held : Bool}
set_option maxRecDepth 100000 in
theorem open_event {fuel : Nat} {cs : List Value} {x : DataW H × List MemPlace} (h : DataW.trod enc Try.prog w base spare held fuel 65 cs = some x) : ∃ e : GE, e.Fit ∧ cs = e.cells := by
  obtain ⟨xs, n, rfl, _, hcl, hxl, hf⟩ := DataW.trod_struct Try.underlying65 h
  rw [cells65] at hcl
  match cs, hcl with
  | [c0, c1, c2, c3, c4, c5, c6, c7], _ =>
    have hx8 : xs.length = 8 := hxl
    have key : ∀ (T : TypeId) (k : IntKind) (j : Nat) (f : Field) (v : Value), Try.prog.underlying T = some (.int k) → Try.prog.cellsOf T = 1 → j < xs.length → f.type = T → ([c0, c1, c2, c3, c4, c5, c6, c7].drop f.offset).take 1 = [v] →
        DataW.trod enc Try.prog w base spare held n f.type (([c0, c1, c2, c3, c4, c5, c6, c7].drop f.offset).take (Try.prog.cellsOf f.type)) = xs[j]? → ∃ m : Int, v = .int k m ∧ (Lit.int k m).wf = true := by
      intro T k j f v hT hC hj ht hv hh
      rw [ht, hC, hv, List.getElem?_eq_getElem hj] at hh
      obtain ⟨m, hk, _, hw⟩ := DataW.trod_int hT hh
      simp only [List.cons.injEq, and_true] at hk
      exact ⟨m, hk, hw⟩
    obtain ⟨m0, rfl, b0⟩ := key 63 .u8 0 _ c0 Try.underlying63 cells63 (by omega) rfl rfl (hf 0 _ rfl)
    obtain ⟨m1, rfl, b1⟩ := key 3 .i64 1 _ c1 Try.underlying3 cells3 (by omega) rfl rfl (hf 1 _ rfl)
    obtain ⟨m2, rfl, b2⟩ := key 42 .u64 2 _ c2 Try.underlying42 cells42 (by omega) rfl rfl (hf 2 _ rfl)
    obtain ⟨m3, rfl, b3⟩ := key 42 .u64 3 _ c3 Try.underlying42 cells42 (by omega) rfl rfl (hf 3 _ rfl)
    obtain ⟨m4, rfl, b4⟩ := key 42 .u64 4 _ c4 Try.underlying42 cells42 (by omega) rfl rfl (hf 4 _ rfl)
    obtain ⟨m5, rfl, b5⟩ := key 3 .i64 5 _ c5 Try.underlying3 cells3 (by omega) rfl rfl (hf 5 _ rfl)
    obtain ⟨m6, rfl, b6⟩ := key 3 .i64 6 _ c6 Try.underlying3 cells3 (by omega) rfl rfl (hf 6 _ rfl)
    have h7 := hf 7 _ rfl
    rw [List.getElem?_eq_getElem (by omega)] at h7
    have hc7 : ∃ ca cl cc, c7 = .slice ca cl cc := by
      have h7' : DataW.trod enc Try.prog w base spare held n 46 [c7] = some xs[7] := by rw [← h7]; rfl
      rcases open_slice Try.underlying46 h7' with ⟨hc, _⟩ | ⟨a, len, cap, m, n, D, Pl, hc, _⟩
      · simp only [List.cons.injEq, and_true] at hc; exact ⟨_, _, _, hc⟩
      · simp only [List.cons.injEq, and_true] at hc; exact ⟨_, _, _, hc⟩
    obtain ⟨ca, cl, cc, rfl⟩ := hc7
    obtain ⟨g1, g2⟩ := u8_lt b0
    obtain ⟨k0, rfl⟩ := Int.eq_ofNat_of_zero_le g1
    exact ⟨⟨k0, m1, m2, m3, m4, m5, m6, ca, cl, cc⟩, ⟨by show k0 < 256; omega, u64_lt b2, u64_lt b3, u64_lt b4⟩, rfl⟩
theorem open_events {fuel : Nat} {a0 : Option Addr} {len0 cap0 : Nat} {x : DataW H × List MemPlace} (h : DataW.trod enc Try.prog w base spare held fuel 24 [.slice a0 len0 cap0] = some x) :
    ∃ es : List GE, es.length = len0 ∧ (∀ e ∈ es, e.Fit) ∧ Rd w (.slice a0 len0 cap0) len0 (geCells es) ∧ len0 ≤ 9223372036854775807 := by
  rcases open_slice Try.underlying24 h with ⟨hc, _⟩ | ⟨a, len, cap, m, n, D, Pl, hc, _, hl, hm, hmm, _, hi⟩
  · simp only [List.cons.injEq, Value.slice.injEq, and_true] at hc
    obtain ⟨rfl, rfl, rfl⟩ := hc
    exact ⟨[], rfl, by simp, Rd.nil w, by omega⟩
  · simp only [List.cons.injEq, Value.slice.injEq, and_true] at hc
    obtain ⟨rfl, rfl, rfl⟩ := hc
    have hlm : len0 ≤ m := by rw [hmm]; split <;> omega
    have hmax : len0 ≤ 9223372036854775807 := by unfold maxLen at hm; omega
    by_cases h0 : len0 = 0
    · subst h0
      exact ⟨[], rfl, by simp, ⟨_, _, rfl, .inl ⟨rfl, rfl⟩⟩, by omega⟩
    · have step : ∀ i, i < len0 → ∃ e : GE, e.Fit ∧ ∀ j v, e.cells[j]? = some v → w.cell? ((a.add (i * 8)).add j) = some v := by
        intro i hil
        obtain ⟨cs', hcs, ht⟩ := hi i (by omega)
        rw [cells65] at hcs
        obtain ⟨e, hf, rfl⟩ := open_event ht
        obtain ⟨_, hcl, hat⟩ := World.cells?_some hcs
        refine ⟨e, hf, fun j v hj => ?_⟩
        have hj8 : j < 8 := by
          rcases Nat.lt_or_ge j 8 with h1 | h1
          · exact h1
          · rw [List.getElem?_eq_none (by show 8 ≤ j; exact h1)] at hj; cases hj
        rw [hat j hj8]; exact hj
      obtain ⟨ac0, _, hc0⟩ := step 0 (by omega)
      have hz := hc0 0 _ rfl
      obtain ⟨b, off, spot⟩ := a
      have hs : spot = none := by
        have := World.cell?_spot hz
        simpa [Addr.add] using this
      subst hs
      obtain ⟨es, h1, h2, h3⟩ := flatList (f := GE.cells) (fun _ => rfl) (w := w) (b := b) (off := off) len0 (fun i hil => by
        obtain ⟨ac, hf, hc⟩ := step i hil
        refine ⟨ac, hf, fun j v hj => ?_⟩
        have := hc j v hj
        have e : ((Addr.mk b off none).add (i * 8)).add j = ⟨b, off + i * 8 + j, none⟩ := by
          unfold Addr.add
          split <;> split <;> simp_all
        rw [e] at this
        exact this)
      exact ⟨es, h1, h2, ⟨_, _, rfl, .inr ⟨b, off, rfl, h3⟩⟩, hmax⟩
end
end Go.Proofs.Ytpgjpoilcdkjgaa
