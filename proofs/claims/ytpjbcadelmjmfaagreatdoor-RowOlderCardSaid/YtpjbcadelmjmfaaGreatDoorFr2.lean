/- Arguments that are slices of structs: rows, columns; a struct of a slice and a byte. -/
import Derived.Test.YtpjbcadelmjmfaaGreatDoorFr
import Derived.Test.YtpjbcadelmjmfaaGreatDoorR13
import Derived.Test.YtpjbcadelmjmfaaGreatDoorR4
namespace Go.Proofs.YtpjbcadelmjmfaaGreatDoor
open Go.RowKit Go.Lib Go.ChangeShapes Go.WideShapes Go.ChangeAt Go.Deep

section
variable {H : Type} {enc : TypeId × Value → H} {w : World} {base : Nat} {spare : Nat → Bool} {held : Bool}
theorem flat_list {α : Type} {f : α → List Value} {sz : Nat} (hf : ∀ e, (f e).length = sz) {Ok : α → Prop} {w : World} {b off : Nat} : ∀ len : Nat, (∀ i, i < len → ∃ e : α, Ok e ∧ ∀ j v, (f e)[j]? = some v → w.cell? ⟨b, off + i * sz + j, none⟩ = some v) →
    ∃ es : List α, es.length = len ∧ (∀ e ∈ es, Ok e) ∧ ∀ j u, (es.flatMap f)[j]? = some u → w.cell? ⟨b, off + j, none⟩ = some u
  | 0, _ => ⟨[], rfl, by simp, by simp⟩
  | len + 1, h => by
    obtain ⟨es, hl, ho, hc⟩ := flat_list hf len (fun i hi => h i (by omega))
    obtain ⟨e, he, hec⟩ := h len (by omega)
    have hal : (es.flatMap f).length = len * sz := by rw [flat_len hf, hl]
    refine ⟨es ++ [e], by simp [hl], ?_, ?_⟩
    · intro x hx
      simp only [List.mem_append, List.mem_singleton] at hx
      rcases hx with hx | rfl
      · exact ho x hx
      · exact he
    · intro j u hj
      have e0 : (es ++ [e]).flatMap f = es.flatMap f ++ f e := by simp
      rw [e0] at hj
      rcases Nat.lt_or_ge j (es.flatMap f).length with h1 | h1
      · rw [List.getElem?_append_left h1] at hj; exact hc j u hj
      · rw [List.getElem?_append_right h1] at hj
        have := hec _ u hj
        rw [hal] at this h1
        have e2 : off + len * sz + (j - len * sz) = off + j := by omega
        rw [e2] at this
        exact this
theorem open_flat {α : Type} (f : α → List Value) (sz : Nat) (hf : ∀ e, (f e).length = sz) (hsz : 0 < sz) (Ok : α → Prop) {P : Program} {t e : TypeId} (ht : P.underlying t = some (.slice e)) (hc : P.cellsOf e = sz)
    (hopen : ∀ (fuel : Nat) (cs : List Value) (x : DataW H × List MemPlace), DataW.trod enc P w base spare held fuel e cs = some x → ∃ v, Ok v ∧ cs = f v)
    {fuel : Nat} {a0 : Option Addr} {len0 cap0 : Nat} {x : DataW H × List MemPlace} (h : DataW.trod enc P w base spare held fuel t [.slice a0 len0 cap0] = some x) :
    ∃ es : List α, es.length = len0 ∧ (∀ e ∈ es, Ok e) ∧ Rd w (.slice a0 len0 cap0) len0 (es.flatMap f) ∧ len0 ≤ 9223372036854775807 := by
  rcases open_slice ht h with ⟨hcs, _⟩ | ⟨a, len, cap, m, n, D, Pl, hcs, _, hl, hm, hmm, _, hi⟩
  · simp only [List.cons.injEq, Value.slice.injEq, and_true] at hcs
    obtain ⟨rfl, rfl, rfl⟩ := hcs
    exact ⟨[], rfl, by simp, Rd.nil w, by omega⟩
  · simp only [List.cons.injEq, Value.slice.injEq, and_true] at hcs
    obtain ⟨rfl, rfl, rfl⟩ := hcs
    have hlm : len0 ≤ m := by rw [hmm]; split <;> omega
    have hmax : len0 ≤ 9223372036854775807 := by unfold maxLen at hm; omega
    by_cases h0 : len0 = 0
    · subst h0
      exact ⟨[], rfl, by simp, ⟨_, _, rfl, .inl ⟨rfl, rfl⟩⟩, by omega⟩
    · have step : ∀ i, i < len0 → ∃ v : α, Ok v ∧ ∀ j u, (f v)[j]? = some u → w.cell? ((a.add (i * sz)).add j) = some u := by
        intro i hil
        obtain ⟨cs', hcs', ht'⟩ := hi i (by omega)
        rw [hc] at hcs'
        obtain ⟨v, ho, rfl⟩ := hopen _ _ _ ht'
        obtain ⟨_, hcl, hat⟩ := World.cells?_some hcs'
        refine ⟨v, ho, fun j u hj => ?_⟩
        have hj6 : j < sz := by
          rcases Nat.lt_or_ge j sz with h1 | h1
          · exact h1
          · rw [List.getElem?_eq_none (by rw [hf]; exact h1)] at hj; cases hj
        rw [hat j hj6]; exact hj
      obtain ⟨v0, _, hc0⟩ := step 0 (by omega)
      obtain ⟨u0, hu0⟩ : ∃ u, (f v0)[0]? = some u := ⟨_, List.getElem?_eq_getElem (by rw [hf]; exact hsz)⟩
      have hz := hc0 0 _ hu0
      obtain ⟨b, off, spot⟩ := a
      have hs : spot = none := by
        have := World.cell?_spot hz
        simpa [Addr.add] using this
      subst hs
      obtain ⟨es, h1, h2, h3⟩ := flat_list (f := f) hf (Ok := Ok) (w := w) (b := b) (off := off) len0 (fun i hil => by
        obtain ⟨v, ho, hcv⟩ := step i hil
        refine ⟨v, ho, fun j u hj => ?_⟩
        have := hcv j u hj
        have e : ((Addr.mk b off none).add (i * sz)).add j = ⟨b, off + i * sz + j, none⟩ := by
          unfold Addr.add
          split <;> split <;> simp_all
        rw [e] at this
        exact this)
      exact ⟨es, h1, h2, ⟨_, _, rfl, .inr ⟨b, off, rfl, h3⟩⟩, hmax⟩
theorem open_row {fuel : Nat} {a0 : Option Addr} {len0 cap0 : Nat} {x : DataW H × List MemPlace} (h : DataW.trod enc Tryz.prog w base spare held fuel 24 [.slice a0 len0 cap0] = some x) :
    ∃ r : List RV, r.length = len0 ∧ (∀ v ∈ r, v.ty < 256 ∧ v.tx.size ≤ 9223372036854775807) ∧ Rd w (.slice a0 len0 cap0) len0 (vCells r) ∧ len0 ≤ 9223372036854775807 :=
  open_flat RV.cells 5 (fun _ => rfl) (by omega) (fun v => v.ty < 256 ∧ v.tx.size ≤ 9223372036854775807) Tryz.underlying24 cellsVal (fun fuel cs x hh => by obtain ⟨v, h1, h2, h3⟩ := open_rv hh; exact ⟨v, ⟨h1, h2⟩, h3⟩) h
theorem cellsLC : Tryz.prog.cellsOf 93 = 8 := by kernel_rfl
theorem cellsU8 : Tryz.prog.cellsOf 5 = 1 := by kernel_rfl
set_option maxRecDepth 100000 in
theorem open_lc {fuel : Nat} {cs : List Value} {x : DataW H × List MemPlace} (h : DataW.trod enc Tryz.prog w base spare held fuel 93 cs = some x) : ∃ c : LC, (c.t < 256 ∧ c.d.ty < 256 ∧ c.d.tx.size ≤ 9223372036854775807) ∧ cs = c.cells := by
  obtain ⟨xs, n, rfl, _, hcl, hxl, hf⟩ := DataW.trod_struct Tryz.underlying93 h
  rw [cellsLC] at hcl
  match cs, hcl with
  | [c0, c1, c2, c3, c4, c5, c6, c7], _ =>
    have hx4 : xs.length = 4 := hxl
    have h0 := hf 0 _ rfl
    have h1 := hf 1 _ rfl
    have h2 := hf 2 _ rfl
    have h3 := hf 3 _ rfl
    rw [List.getElem?_eq_getElem (by omega)] at h0 h1 h2 h3
    have g0 : DataW.trod enc Tryz.prog w base spare held n 5 [c0] = some xs[0] := by rw [← h0]; rfl
    have g1 : DataW.trod enc Tryz.prog w base spare held n 4 [c1] = some xs[1] := by rw [← h1]; rfl
    have g2 : DataW.trod enc Tryz.prog w base spare held n 50 [c2, c3, c4, c5, c6] = some xs[2] := by rw [← h2]; rfl
    have g3 : DataW.trod enc Tryz.prog w base spare held n 4 [c7] = some xs[3] := by rw [← h3]; rfl
    obtain ⟨m0, e0, _, w0⟩ := DataW.trod_int Tryz.underlying5 g0
    obtain ⟨b1, e1, _⟩ := DataW.trod_bool Tryz.underlying4 g1
    obtain ⟨v, q1, q2, q3⟩ := open_rv g2
    obtain ⟨b4, e4, _⟩ := DataW.trod_bool Tryz.underlying4 g3
    simp only [List.cons.injEq, and_true] at e0 e1 e4
    subst e0 e1 e4
    obtain ⟨k1, k2⟩ := u8_lt w0
    obtain ⟨t, rfl⟩ := Int.eq_ofNat_of_zero_le k1
    unfold RV.cells at q3
    simp only [List.cons.injEq, and_true] at q3
    obtain ⟨rfl, rfl, rfl, rfl, rfl⟩ := q3
    exact ⟨⟨t, b1, v, b4⟩, ⟨by show t < 256; omega, q1, q2⟩, rfl⟩
theorem open_cols {fuel : Nat} {a0 : Option Addr} {len0 cap0 : Nat} {x : DataW H × List MemPlace} (h : DataW.trod enc Tryz.prog w base spare held fuel 22 [.slice a0 len0 cap0] = some x) :
    ∃ l : List LC, l.length = len0 ∧ (∀ c ∈ l, c.t < 256 ∧ c.d.ty < 256 ∧ c.d.tx.size ≤ 9223372036854775807) ∧ Rd w (.slice a0 len0 cap0) len0 (lCells l) ∧ len0 ≤ 9223372036854775807 :=
  open_flat LC.cells 8 (fun _ => rfl) (by omega) (fun c => c.t < 256 ∧ c.d.ty < 256 ∧ c.d.tx.size ≤ 9223372036854775807) Tryz.underlying22 cellsLC (fun fuel cs x hh => open_lc hh) h
theorem cellsRaw : Tryz.prog.cellsOf 76 = 2 := by kernel_rfl
set_option maxRecDepth 100000 in
theorem open_raw {r : Reach} {b0 : Nat} {v : Value} {d : DataW H} {p : List MemPlace} (hv : Value.okWide Tryz.prog w r b0 76 v) (h : DataW.Trod enc Tryz.prog w base spare held 76 v d p) :
    ∃ (pa : Option Addr) (pn pc how : Nat), how < 256 ∧ v = .agg #[.slice pa pn pc, .int .u8 (how : Int)] := by
  obtain ⟨cs, rfl, hsz⟩ := okWide_struct Tryz.underlying76 hv
  rw [cellsRaw] at hsz
  obtain ⟨fuel, hf⟩ := h
  obtain ⟨l⟩ := cs
  match l, hsz with
  | [c0, c1], _ =>
    obtain ⟨xs, n, _, _, _, hxl, hg⟩ := DataW.trod_struct Tryz.underlying76 hf
    have hx2 : xs.length = 2 := hxl
    have h0 := hg 0 _ rfl
    have h1 := hg 1 _ rfl
    rw [List.getElem?_eq_getElem (by omega)] at h0 h1
    have g0 : DataW.trod enc Tryz.prog w base spare held n 34 [c0] = some xs[0] := by rw [← h0]; rfl
    have g1 : DataW.trod enc Tryz.prog w base spare held n 5 [c1] = some xs[1] := by rw [← h1]; rfl
    obtain ⟨m0, e0, _, w0⟩ := DataW.trod_int Tryz.underlying5 g1
    simp only [List.cons.injEq, and_true] at e0
    subst e0
    obtain ⟨k1, k2⟩ := u8_lt w0
    obtain ⟨t, rfl⟩ := Int.eq_ofNat_of_zero_le k1
    have hc0 : ∃ pa pn pc, c0 = .slice pa pn pc := by
      rcases open_slice Tryz.underlying34 g0 with ⟨hc, _⟩ | ⟨a, len, cap, m, n', D, Pl, hc, _⟩
      · simp only [List.cons.injEq, and_true] at hc; exact ⟨_, _, _, hc⟩
      · simp only [List.cons.injEq, and_true] at hc; exact ⟨_, _, _, hc⟩
    obtain ⟨pa, pn, pc, rfl⟩ := hc0
    exact ⟨pa, pn, pc, t, by omega, rfl⟩
end
end Go.Proofs.YtpjbcadelmjmfaaGreatDoor
