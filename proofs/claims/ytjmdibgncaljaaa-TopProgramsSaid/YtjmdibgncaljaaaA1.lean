/- An argument that is a slice of acts. -/
import Derived.Test.YtjmdibgncaljaaaO22
import Derived.Deep.Slices
import Derived.Deep.Fields
import Derived.ChangeSame
namespace Go.Proofs.Ytjmdibgncaljaaa
open Go.RowKit Go.ChangeShapes Go.WideShapes Go.Deep

theorem acts_list {w : World} {b off : Nat} : ∀ len : Nat, (∀ i, i < len → ∃ a : Ac, a.Fit ∧ ∀ j v, a.cells[j]? = some v → w.cell? ⟨b, off + i * 6 + j, none⟩ = some v) →
    ∃ acs : List Ac, acs.length = len ∧ (∀ a ∈ acs, a.Fit) ∧ ∀ j u, (acCells acs)[j]? = some u → w.cell? ⟨b, off + j, none⟩ = some u
  | 0, _ => ⟨[], rfl, by simp, by simp [acCells]⟩
  | len + 1, h => by
    obtain ⟨acs, hl, hf, hc⟩ := acts_list len (fun i hi => h i (by omega))
    obtain ⟨a, ha, hac⟩ := h len (by omega)
    have hal : (acCells acs).length = len * 6 := by
      rw [← hl]
      clear hc hf hl
      induction acs with
      | nil => rfl
      | cons s l ih => simp only [acCells, List.flatMap_cons, List.length_append, List.length_cons] at *; rw [ih]; show 6 + _ = _; omega
    refine ⟨acs ++ [a], by simp [hl], ?_, ?_⟩
    · intro x hx
      simp only [List.mem_append, List.mem_singleton] at hx
      rcases hx with hx | rfl
      · exact hf x hx
      · exact ha
    · intro j u hj
      have e : acCells (acs ++ [a]) = acCells acs ++ a.cells := by simp [acCells]
      rw [e] at hj
      rcases Nat.lt_or_ge j (acCells acs).length with h1 | h1
      · rw [List.getElem?_append_left h1] at hj; exact hc j u hj
      · rw [List.getElem?_append_right h1] at hj
        have := hac _ u hj
        rw [hal] at this h1
        have e2 : off + len * 6 + (j - len * 6) = off + j := by omega
        rw [e2] at this
        exact this
theorem u8_lt {n : Int} (h : (Lit.int .u8 n).wf = true) : 0 ≤ n ∧ n < 256 := by
  simp only [Lit.wf, Bool.and_eq_true, decide_eq_true_eq] at h
  have e1 : IntKind.min .u8 = 0 := by decide
  have e2 : IntKind.max .u8 = 255 := by decide
  rw [e1, e2] at h
  omega
theorem cells85 : Try.prog.cellsOf 25 = 6 := by kernel_rfl
theorem cells5 : Try.prog.cellsOf 5 = 1 := by kernel_rfl

section
variable {H : Type} {enc : TypeId × Value → H} {w : World} {base : Nat} {spare : Nat → Bool} {held : Bool}
set_option maxRecDepth 100000 in
theorem open_act {fuel : Nat} {cs : List Value} {x : DataW H × List MemPlace} (h : DataW.trod enc Try.prog w base spare held fuel 25 cs = some x) : ∃ a : Ac, a.Fit ∧ cs = a.cells := by
  obtain ⟨xs, n, rfl, _, hcl, hxl, hf⟩ := DataW.trod_struct Try.underlying25 h
  rw [cells85] at hcl
  match cs, hcl with
  | [c0, c1, c2, c3, c4, c5], _ =>
    have key : ∀ (j : Nat) (f : Field) (v : Value), j < xs.length → (#[] : Array Field).size = 0 → f.type = 5 → ([c0, c1, c2, c3, c4, c5].drop f.offset).take 1 = [v] →
        DataW.trod enc Try.prog w base spare held n f.type (([c0, c1, c2, c3, c4, c5].drop f.offset).take (Try.prog.cellsOf f.type)) = xs[j]? → ∃ m : Nat, v = .int .u8 (m : Int) ∧ m < 256 := by
      intro j f v hj _ ht hv hh
      rw [ht, cells5, hv, List.getElem?_eq_getElem hj] at hh
      obtain ⟨k, hk, _, hw⟩ := DataW.trod_int Try.underlying5 hh
      obtain ⟨h0, h1⟩ := u8_lt hw
      obtain ⟨m, rfl⟩ := Int.eq_ofNat_of_zero_le h0
      simp only [List.cons.injEq, and_true] at hk
      exact ⟨m, hk, by omega⟩
    have hx6 : xs.length = 6 := hxl
    obtain ⟨m0, rfl, b0⟩ := key 0 _ c0 (by omega) rfl rfl rfl (hf 0 _ rfl)
    obtain ⟨m1, rfl, b1⟩ := key 1 _ c1 (by omega) rfl rfl rfl (hf 1 _ rfl)
    obtain ⟨m2, rfl, b2⟩ := key 2 _ c2 (by omega) rfl rfl rfl (hf 2 _ rfl)
    obtain ⟨m3, rfl, b3⟩ := key 3 _ c3 (by omega) rfl rfl rfl (hf 3 _ rfl)
    obtain ⟨m4, rfl, b4⟩ := key 4 _ c4 (by omega) rfl rfl rfl (hf 4 _ rfl)
    obtain ⟨m5, rfl, b5⟩ := key 5 _ c5 (by omega) rfl rfl rfl (hf 5 _ rfl)
    exact ⟨⟨m0, m1, m2, m3, m4, m5⟩, ⟨b0, b1, b2, b3, b4, b5⟩, rfl⟩
theorem open_acts {fuel : Nat} {a0 : Option Addr} {len0 cap0 : Nat} {x : DataW H × List MemPlace} (h : DataW.trod enc Try.prog w base spare held fuel 22 [.slice a0 len0 cap0] = some x) :
    ∃ acs : List Ac, acs.length = len0 ∧ (∀ a ∈ acs, a.Fit) ∧ Rd w (.slice a0 len0 cap0) len0 (acCells acs) ∧ len0 ≤ 9223372036854775807 ∧ len0 ≤ cap0 := by
  rcases open_slice Try.underlying22 h with ⟨hc, _⟩ | ⟨a, len, cap, m, n, D, Pl, hc, _, hl, hm, hmm, _, hi⟩
  · simp only [List.cons.injEq, Value.slice.injEq, and_true] at hc
    obtain ⟨rfl, rfl, rfl⟩ := hc
    exact ⟨[], rfl, by simp, Rd.nil w, by omega, by omega⟩
  · simp only [List.cons.injEq, Value.slice.injEq, and_true] at hc
    obtain ⟨rfl, rfl, rfl⟩ := hc
    have hlm : len0 ≤ m := by rw [hmm]; split <;> omega
    have hmax : len0 ≤ 9223372036854775807 := by unfold maxLen at hm; omega
    by_cases h0 : len0 = 0
    · subst h0
      exact ⟨[], rfl, by simp, ⟨_, _, rfl, .inl ⟨rfl, rfl⟩⟩, by omega, by omega⟩
    · have step : ∀ i, i < len0 → ∃ ac : Ac, ac.Fit ∧ ∀ j v, ac.cells[j]? = some v → w.cell? ((a.add (i * 6)).add j) = some v := by
        intro i hil
        obtain ⟨cs', hcs, ht⟩ := hi i (by omega)
        rw [cells85] at hcs
        obtain ⟨ac, hf, rfl⟩ := open_act ht
        obtain ⟨_, hcl, hat⟩ := World.cells?_some hcs
        refine ⟨ac, hf, fun j v hj => ?_⟩
        have hj6 : j < 6 := by
          rcases Nat.lt_or_ge j 6 with h1 | h1
          · exact h1
          · rw [List.getElem?_eq_none (by show 6 ≤ j; exact h1)] at hj; cases hj
        rw [hat j hj6]; exact hj
      obtain ⟨ac0, _, hc0⟩ := step 0 (by omega)
      have hz := hc0 0 _ rfl
      obtain ⟨b, off, spot⟩ := a
      have hs : spot = none := by
        have := World.cell?_spot hz
        simpa [Addr.add] using this
      subst hs
      obtain ⟨acs, h1, h2, h3⟩ := acts_list (w := w) (b := b) (off := off) len0 (fun i hil => by
        obtain ⟨ac, hf, hc⟩ := step i hil
        refine ⟨ac, hf, fun j v hj => ?_⟩
        have := hc j v hj
        have e : ((Addr.mk b off none).add (i * 6)).add j = ⟨b, off + i * 6 + j, none⟩ := by
          unfold Addr.add
          split <;> split <;> simp_all
        rw [e] at this
        exact this)
      exact ⟨acs, h1, h2, ⟨_, _, rfl, .inr ⟨b, off, rfl, h3⟩⟩, hmax, by omega⟩
end
end Go.Proofs.Ytjmdibgncaljaaa
