/- An argument that is a slice of instructions; the walk of TopPrograms at a slice of bytes that came in. -/
import Derived.Test.YtjmdibgncaljaaaA1
import Derived.Test.YtjmdibgncaljaaaP20
import Derived.Deep.Slices
import Derived.Deep.Fields
import Derived.ChangeSame
namespace Go.Proofs.Ytjmdibgncaljaaa
open Go.RowKit Go.ChangeShapes Go.WideShapes Go.Deep

theorem dins_list {w : World} {b off : Nat} : ∀ len : Nat, (∀ i, i < len → ∃ a : Di, a.Fit ∧ ∀ j v, a.cells[j]? = some v → w.cell? ⟨b, off + i * 3 + j, none⟩ = some v) →
    ∃ dis : List Di, dis.length = len ∧ (∀ a ∈ dis, a.Fit) ∧ ∀ j u, (diCells dis)[j]? = some u → w.cell? ⟨b, off + j, none⟩ = some u
  | 0, _ => ⟨[], rfl, by simp, by simp [diCells]⟩
  | len + 1, h => by
    obtain ⟨dis, hl, hf, hc⟩ := dins_list len (fun i hi => h i (by omega))
    obtain ⟨a, ha, hac⟩ := h len (by omega)
    have hal : (diCells dis).length = len * 3 := by
      rw [← hl]
      clear hc hf hl
      induction dis with
      | nil => rfl
      | cons s l ih => simp only [diCells, List.flatMap_cons, List.length_append, List.length_cons] at *; rw [ih]; show 3 + _ = _; omega
    refine ⟨dis ++ [a], by simp [hl], ?_, ?_⟩
    · intro x hx
      simp only [List.mem_append, List.mem_singleton] at hx
      rcases hx with hx | rfl
      · exact hf x hx
      · exact ha
    · intro j u hj
      have e : diCells (dis ++ [a]) = diCells dis ++ a.cells := by simp [diCells]
      rw [e] at hj
      rcases Nat.lt_or_ge j (diCells dis).length with h1 | h1
      · rw [List.getElem?_append_left h1] at hj; exact hc j u hj
      · rw [List.getElem?_append_right h1] at hj
        have := hac _ u hj
        rw [hal] at this h1
        have e2 : off + len * 3 + (j - len * 3) = off + j := by omega
        rw [e2] at this
        exact this
theorem u64_lt {n : Int} (h : (Lit.int .u64 n).wf = true) : 0 ≤ n ∧ n < 18446744073709551616 := by
  simp only [Lit.wf, Bool.and_eq_true, decide_eq_true_eq] at h
  have e1 : IntKind.min .u64 = 0 := by decide
  have e2 : IntKind.max .u64 = 18446744073709551615 := by decide
  rw [e1, e2] at h
  omega
theorem i64_bd {n : Int} (h : (Lit.int .i64 n).wf = true) : -9223372036854775808 ≤ n ∧ n ≤ 9223372036854775807 := by
  simp only [Lit.wf, Bool.and_eq_true, decide_eq_true_eq] at h
  have e1 : IntKind.min .i64 = -9223372036854775808 := by decide
  have e2 : IntKind.max .i64 = 9223372036854775807 := by decide
  rw [e1, e2] at h
  omega
theorem cellsDIn : Try.prog.cellsOf 167 = 3 := by kernel_rfl
theorem cellsU8 : Try.prog.cellsOf 5 = 1 := by kernel_rfl
theorem cellsU64 : Try.prog.cellsOf 27 = 1 := by kernel_rfl

section
variable {H : Type} {enc : TypeId × Value → H} {w : World} {base : Nat} {spare : Nat → Bool} {held : Bool}
set_option maxRecDepth 100000 in
theorem open_din {fuel : Nat} {cs : List Value} {x : DataW H × List MemPlace} (h : DataW.trod enc Try.prog w base spare held fuel 167 cs = some x) : ∃ a : Di, a.Fit ∧ cs = a.cells := by
  obtain ⟨xs, n, rfl, _, hcl, hxl, hf⟩ := DataW.trod_struct Try.underlying167 h
  rw [cellsDIn] at hcl
  match cs, hcl with
  | [c0, c1, c2], _ =>
    have key : ∀ (j : Nat) (f : Field) (v : Value), j < xs.length → f.type = 5 → ([c0, c1, c2].drop f.offset).take 1 = [v] →
        DataW.trod enc Try.prog w base spare held n f.type (([c0, c1, c2].drop f.offset).take (Try.prog.cellsOf f.type)) = xs[j]? → ∃ m : Nat, v = .int .u8 (m : Int) ∧ m < 256 := by
      intro j f v hj ht hv hh
      rw [ht, cellsU8, hv, List.getElem?_eq_getElem hj] at hh
      obtain ⟨k, hk, _, hw⟩ := DataW.trod_int Try.underlying5 hh
      obtain ⟨h0, h1⟩ := u8_lt hw
      obtain ⟨m, rfl⟩ := Int.eq_ofNat_of_zero_le h0
      simp only [List.cons.injEq, and_true] at hk
      exact ⟨m, hk, by omega⟩
    have key2 : ∀ (j : Nat) (f : Field) (v : Value), j < xs.length → f.type = 27 → ([c0, c1, c2].drop f.offset).take 1 = [v] →
        DataW.trod enc Try.prog w base spare held n f.type (([c0, c1, c2].drop f.offset).take (Try.prog.cellsOf f.type)) = xs[j]? → ∃ m : Nat, v = .int .u64 (m : Int) ∧ m < 18446744073709551616 := by
      intro j f v hj ht hv hh
      rw [ht, cellsU64, hv, List.getElem?_eq_getElem hj] at hh
      obtain ⟨k, hk, _, hw⟩ := DataW.trod_int Try.underlying27 hh
      obtain ⟨h0, h1⟩ := u64_lt hw
      obtain ⟨m, rfl⟩ := Int.eq_ofNat_of_zero_le h0
      simp only [List.cons.injEq, and_true] at hk
      exact ⟨m, hk, by omega⟩
    have hx3 : xs.length = 3 := hxl
    obtain ⟨m0, rfl, b0⟩ := key 0 _ c0 (by omega) rfl rfl (hf 0 _ rfl)
    obtain ⟨m1, rfl, b1⟩ := key 1 _ c1 (by omega) rfl rfl (hf 1 _ rfl)
    obtain ⟨m2, rfl, b2⟩ := key2 2 _ c2 (by omega) rfl rfl (hf 2 _ rfl)
    exact ⟨⟨m0, m1, m2⟩, ⟨b0, b1, b2⟩, rfl⟩
theorem open_dins {fuel : Nat} {a0 : Option Addr} {len0 cap0 : Nat} {x : DataW H × List MemPlace} (h : DataW.trod enc Try.prog w base spare held fuel 92 [.slice a0 len0 cap0] = some x) :
    ∃ dis : List Di, dis.length = len0 ∧ (∀ a ∈ dis, a.Fit) ∧ Rd w (.slice a0 len0 cap0) len0 (diCells dis) ∧ len0 ≤ 9223372036854775807 ∧ len0 ≤ cap0 := by
  rcases open_slice Try.underlying92 h with ⟨hc, _⟩ | ⟨a, len, cap, m, n, D, Pl, hc, _, hl, hm, hmm, _, hi⟩
  · simp only [List.cons.injEq, Value.slice.injEq, and_true] at hc
    obtain ⟨rfl, rfl, rfl⟩ := hc
    exact ⟨[], rfl, by simp, Rd.nil w, by omega, by omega⟩
  · simp only [List.cons.injEq, Value.slice.injEq, and_true] at hc
    obtain ⟨rfl, rfl, rfl⟩ := hc
    have hlm : len0 ≤ m := by rw [hmm]; split <;> omega
    have hmax : len0 ≤ 9223372036854775807 := by unfold maxLen at hm; omega
    by_cases h0 : len0 = 0
    · subst h0
      exact ⟨[], rfl, by simp, ⟨_, _, rfl, .inl ⟨rfl, rfl⟩⟩, by omega, by omega⟩
    · have step : ∀ i, i < len0 → ∃ ac : Di, ac.Fit ∧ ∀ j v, ac.cells[j]? = some v → w.cell? ((a.add (i * 3)).add j) = some v := by
        intro i hil
        obtain ⟨cs', hcs, ht⟩ := hi i (by omega)
        rw [cellsDIn] at hcs
        obtain ⟨ac, hf, rfl⟩ := open_din ht
        obtain ⟨_, hcl, hat⟩ := World.cells?_some hcs
        refine ⟨ac, hf, fun j v hj => ?_⟩
        have hj3 : j < 3 := by
          rcases Nat.lt_or_ge j 3 with h1 | h1
          · exact h1
          · rw [List.getElem?_eq_none (by show 3 ≤ j; exact h1)] at hj; cases hj
        rw [hat j hj3]; exact hj
      obtain ⟨ac0, _, hc0⟩ := step 0 (by omega)
      have hz := hc0 0 _ rfl
      obtain ⟨b, off, spot⟩ := a
      have hs : spot = none := by
        have := World.cell?_spot hz
        simpa [Addr.add] using this
      subst hs
      obtain ⟨dis, h1, h2, h3⟩ := dins_list (w := w) (b := b) (off := off) len0 (fun i hil => by
        obtain ⟨ac, hf, hc⟩ := step i hil
        refine ⟨ac, hf, fun j v hj => ?_⟩
        have := hc j v hj
        have e : ((Addr.mk b off none).add (i * 3)).add j = ⟨b, off + i * 3 + j, none⟩ := by
          unfold Addr.add
          split <;> split <;> simp_all
        rw [e] at this
        exact this)
      exact ⟨dis, h1, h2, ⟨_, _, rfl, .inr ⟨b, off, rfl, h3⟩⟩, hmax, by omega⟩
end
theorem prog_row (ds : List Di) (hf : ∀ a ∈ ds, a.Fit) (aa : Option Addr) (cap : Nat) (cut : Int) (pa : Option Addr) (plen pcap : Nat) (zs : List Int) (W : World)
    (hr : Rd W (.slice aa ds.length cap) ds.length (diCells ds)) (hll : ds.length ≤ 9223372036854775807) (hcut : (Lit.int .i64 cut).wf = true) (hz : IsRow .u8 W pa plen pcap zs) :
    Calls Try.prog 5 #[.slice aa ds.length cap, .int .i64 cut, .slice pa plen pcap] W fun e w' => e = .returned (.bool true) ∧ Below W.heap.size W w' := by
  obtain ⟨ys, hl, _, hrd, hw, hm⟩ := hz.rd
  have e : Dev.u8s (ys.map Int.toNat) = ys.map (.int .u8) := by
    unfold Dev.u8s
    rw [List.map_map]
    apply List.map_congr_left
    intro y hy
    have := u8_lt (hw y hy)
    show Value.int .u8 ((y.toNat : Nat) : Int) = .int .u8 y
    rw [Int.toNat_of_nonneg this.1]
  have hlen : (ys.map Int.toNat).length = plen := by simp [hl]
  have := prog_walk ds hf aa cap cut (ys.map Int.toNat) (fun x hx => by
    obtain ⟨y, hy, rfl⟩ := List.mem_map.1 hx
    have := u8_lt (hw y hy)
    omega) pa pcap W hr hll (i64_bd hcut) (by rw [e, hlen]; exact hrd) (by omega)
  rw [hlen] at this
  exact this
end Go.Proofs.Ytjmdibgncaljaaa
