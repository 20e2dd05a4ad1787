/- Arguments that are slices of the parts of a condition. -/
import Derived.Test.YtgnoikfmhncbmaaGreatDoorFr
import Derived.Test.YtgnoikfmhncbmaaGreatDoorB15
set_option linter.unusedVariables false
set_option linter.unusedSimpArgs false
namespace Go.Proofs.YtgnoikfmhncbmaaGreatDoor
open Go.RowKit Go.Lib Go.ChangeShapes Go.WideShapes Go.ChangeAt Go.Deep
section
variable {H : Type} {enc : TypeId × Value → H} {w : World} {base : Nat} {spare : Nat → Bool} {held : Bool}
theorem weights_mem_all {P : Program} {e : TypeId} : ∀ {ds : List (DataW H)} {d : DataW H}, d ∈ ds → ∀ n ∈ d.weights P e, n ∈ DataW.weightsAll P e ds
  | [], d, h, _, _ => by cases h
  | d0 :: ds, d, h, n, hn => by
    simp only [DataW.weightsAll, List.mem_append]
    rcases List.mem_cons.1 h with rfl | h
    · exact .inl hn
    · exact .inr (weights_mem_all h n hn)
theorem flat_list {α : Type} {f : α → List Value} {sz : Nat} (hf : ∀ e, (f e).length = sz) {Ok : α → Prop} {w : World} {b off : Nat} : ∀ len : Nat, (∀ i, i < len → ∃ e : α, Ok e ∧ ∀ j v, (f e)[j]? = some v → w.cell? ⟨b, off + i * sz + j, none⟩ = some v) →
    ∃ es : List α, es.length = len ∧ (∀ e ∈ es, Ok e) ∧ ∀ j u, (es.flatMap f)[j]? = some u → w.cell? ⟨b, off + j, none⟩ = some u
  | 0, _ => ⟨[], rfl, by simp, by simp⟩
  | len + 1, h => by
    obtain ⟨es, hl, ho, hc⟩ := flat_list hf len (fun i hi => h i (by omega))
    obtain ⟨e, he, hec⟩ := h len (by omega)
    have hal : (es.flatMap f).length = len * sz := by rw [flat_len hf, hl]
    refine ⟨es ++ [e], by simp [hl], ?_, ?_⟩
    · intro x hx
      simp only [List.mem_append, List.mem_singleton] at hx
      rcases hx with hx | rfl
      · exact ho x hx
      · exact he
    · intro j u hj
      have e0 : (es ++ [e]).flatMap f = es.flatMap f ++ f e := by simp
      rw [e0] at hj
      rcases Nat.lt_or_ge j (es.flatMap f).length with h1 | h1
      · rw [List.getElem?_append_left h1] at hj; exact hc j u hj
      · rw [List.getElem?_append_right h1] at hj
        have := hec _ u hj
        rw [hal] at this h1
        have e2 : off + len * sz + (j - len * sz) = off + j := by omega
        rw [e2] at this
        exact this
theorem open_flat {α : Type} (f : α → List Value) (sz : Nat) (hf : ∀ e, (f e).length = sz) (hsz : 0 < sz) (Ok : α → Prop) {P : Program} {t e : TypeId} (ht : P.underlying t = some (.slice e)) (hc : P.cellsOf e = sz)
    (hopen : ∀ (fuel : Nat) (cs : List Value) (x : DataW H × List MemPlace), DataW.trod enc P w base spare held fuel e cs = some x → (∀ n ∈ x.1.weights P e, n ≤ reachBytes) → ∃ v, Ok v ∧ cs = f v)
    {fuel : Nat} {a0 : Option Addr} {len0 cap0 : Nat} {x : DataW H × List MemPlace} (h : DataW.trod enc P w base spare held fuel t [.slice a0 len0 cap0] = some x) (hw : ∀ n ∈ x.1.weights P t, n ≤ reachBytes) :
    ∃ es : List α, es.length = len0 ∧ (∀ e ∈ es, Ok e) ∧ Rd w (.slice a0 len0 cap0) len0 (es.flatMap f) ∧ len0 ≤ 9223372036854775807 := by
  rcases open_slice ht h with ⟨hcs, _⟩ | ⟨a, len, cap, m, n, D, Pl, hcs, _, hl, hm, hmm, hx, hi⟩
  · simp only [List.cons.injEq, Value.slice.injEq, and_true] at hcs
    obtain ⟨rfl, rfl, rfl⟩ := hcs
    exact ⟨[], rfl, by simp, Rd.nil w, by omega⟩
  · simp only [List.cons.injEq, Value.slice.injEq, and_true] at hcs
    obtain ⟨rfl, rfl, rfl⟩ := hcs
    have hlm : len0 ≤ m := by rw [hmm]; split <;> omega
    have hmax : len0 ≤ 9223372036854775807 := by unfold maxLen at hm; omega
    have hwa : ∀ i, i < len0 → ∀ k ∈ (D i).weights P e, k ≤ reachBytes := fun i hi2 k hk => by
      refine hw k ?_
      rw [hx]
      simp only [DataW.weights, ht, List.mem_cons, List.mem_append]
      exact .inr (.inl (weights_mem_all (List.mem_map.2 ⟨i, List.mem_range.2 hi2, rfl⟩) k hk))
    by_cases h0 : len0 = 0
    · subst h0
      exact ⟨[], rfl, by simp, ⟨_, _, rfl, .inl ⟨rfl, rfl⟩⟩, by omega⟩
    · have step : ∀ i, i < len0 → ∃ v : α, Ok v ∧ ∀ j u, (f v)[j]? = some u → w.cell? ((a.add (i * sz)).add j) = some u := by
        intro i hil
        obtain ⟨cs', hcs', ht'⟩ := hi i (by omega)
        rw [hc] at hcs'
        obtain ⟨v, ho, rfl⟩ := hopen _ _ _ ht' (hwa i hil)
        obtain ⟨_, hcl, hat⟩ := World.cells?_some hcs'
        refine ⟨v, ho, fun j u hj => ?_⟩
        have hj6 : j < sz := by
          rcases Nat.lt_or_ge j sz with h1 | h1
          · exact h1
          · rw [List.getElem?_eq_none (by rw [hf]; exact h1)] at hj; cases hj
        rw [hat j hj6]; exact hj
      obtain ⟨v0, _, hc0⟩ := step 0 (by omega)
      obtain ⟨u0, hu0⟩ : ∃ u, (f v0)[0]? = some u := ⟨_, List.getElem?_eq_getElem (by rw [hf]; exact hsz)⟩
      have hz := hc0 0 _ hu0
      obtain ⟨b, off, spot⟩ := a
      have hs : spot = none := by
        have := World.cell?_spot hz
        simpa [Addr.add] using this
      subst hs
      obtain ⟨es, h1, h2, h3⟩ := flat_list (f := f) hf (Ok := Ok) (w := w) (b := b) (off := off) len0 (fun i hil => by
        obtain ⟨v, ho, hcv⟩ := step i hil
        refine ⟨v, ho, fun j u hj => ?_⟩
        have := hcv j u hj
        have e : ((Addr.mk b off none).add (i * sz)).add j = ⟨b, off + i * sz + j, none⟩ := by
          unfold Addr.add
          split <;> split <;> simp_all
        rw [e] at this
        exact this)
      exact ⟨es, h1, h2, ⟨_, _, rfl, .inr ⟨b, off, rfl, h3⟩⟩, hmax⟩
theorem cellsNd : Tryz.prog.cellsOf 90 = 9 := by kernel_rfl
theorem cellsU8 : Tryz.prog.cellsOf 5 = 1 := by kernel_rfl
set_option maxRecDepth 100000 in
/-- A value whose string is within reach. -/
theorem open_rv_w {fuel : Nat} {cs : List Value} {x : DataW H × List MemPlace} (h : DataW.trod enc Tryz.prog w base spare held fuel 28 cs = some x) (hw : ∀ n ∈ x.1.weights Tryz.prog 28, n ≤ reachBytes) : ∃ v : RV, v.ty < 256 ∧ v.tx.size ≤ 140737488351232 ∧ cs = v.cells := by
  obtain ⟨v, h1, h2, h3⟩ := open_rv h
  refine ⟨v, h1, ?_, h3⟩
  subst h3
  obtain ⟨xs, n, rfl, hx, hcl, hxl, hf⟩ := DataW.trod_struct Tryz.underlying28 h
  have hx5 : xs.length = 5 := hxl
  have h3 := hf 3 _ rfl
  rw [List.getElem?_eq_getElem (by omega)] at h3
  have g3 : DataW.trod enc Tryz.prog w base spare held n 9 [.string v.tx] = some xs[3] := by rw [← h3]; rfl
  obtain ⟨s3, e3, d3, _⟩ := DataW.trod_string Tryz.underlying9 g3
  simp only [List.cons.injEq, Value.string.injEq, and_true] at e3
  subst e3
  have hm : v.tx.data.toList.length ∈ x.1.weights Tryz.prog 28 := by
    rw [hx]
    simp only [DataW.weights, Tryz.underlying28]
    refine DataW.weights_mem_each (j := 3) (t := 9) (d := .lit (.string v.tx.data.toList)) rfl ?_ _ (by simp [DataW.weights])
    rw [List.getElem?_map, List.getElem?_eq_getElem (by omega), d3]; rfl
  have := hw _ hm
  have e : v.tx.data.toList.length = v.tx.size := by simp
  unfold reachBytes at this
  omega
set_option maxRecDepth 100000 in
theorem open_nd {fuel : Nat} {cs : List Value} {x : DataW H × List MemPlace} (h : DataW.trod enc Tryz.prog w base spare held fuel 90 cs = some x) (hw : ∀ n ∈ x.1.weights Tryz.prog 90, n ≤ reachBytes) : ∃ c : Nd, c.Fit ∧ cs = c.cells := by
  obtain ⟨xs, n, rfl, hx, hcl, hxl, hf⟩ := DataW.trod_struct Tryz.underlying90 h
  rw [cellsNd] at hcl
  match cs, hcl with
  | [c0, c1, c2, c3, c4, c5, c6, c7, c8], _ =>
    have hx5 : xs.length = 5 := hxl
    have h0 := hf 0 _ rfl
    have h1 := hf 1 _ rfl
    have h2 := hf 2 _ rfl
    have h3 := hf 3 _ rfl
    have h4 := hf 4 _ rfl
    rw [List.getElem?_eq_getElem (by omega)] at h0 h1 h2 h3 h4
    have g0 : DataW.trod enc Tryz.prog w base spare held n 5 [c0] = some xs[0] := by rw [← h0]; rfl
    have g1 : DataW.trod enc Tryz.prog w base spare held n 5 [c1] = some xs[1] := by rw [← h1]; rfl
    have g2 : DataW.trod enc Tryz.prog w base spare held n 28 [c2, c3, c4, c5, c6] = some xs[2] := by rw [← h2]; rfl
    have g3 : DataW.trod enc Tryz.prog w base spare held n 5 [c7] = some xs[3] := by rw [← h3]; rfl
    have g4 : DataW.trod enc Tryz.prog w base spare held n 5 [c8] = some xs[4] := by rw [← h4]; rfl
    obtain ⟨v, q1, q2, q3⟩ := open_rv_w g2 (fun k hk => hw k (by
      rw [hx]
      simp only [DataW.weights, Tryz.underlying90]
      exact DataW.weights_mem_each (j := 2) (t := 28) (d := xs[2].1) rfl (by rw [List.getElem?_map, List.getElem?_eq_getElem (by omega)]; rfl) _ hk))
    obtain ⟨m0, e0, _, w0⟩ := DataW.trod_int Tryz.underlying5 g0
    obtain ⟨m1, e1, _, w1⟩ := DataW.trod_int Tryz.underlying5 g1
    obtain ⟨m3, e3, _, w3⟩ := DataW.trod_int Tryz.underlying5 g3
    obtain ⟨m4, e4, _, w4⟩ := DataW.trod_int Tryz.underlying5 g4
    simp only [List.cons.injEq, and_true] at e0 e1 e3 e4
    subst e0 e1 e3 e4
    obtain ⟨k0, l0⟩ := u8_lt w0
    obtain ⟨k1, l1⟩ := u8_lt w1
    obtain ⟨k3, l3⟩ := u8_lt w3
    obtain ⟨k4, l4⟩ := u8_lt w4
    obtain ⟨t0, rfl⟩ := Int.eq_ofNat_of_zero_le k0
    obtain ⟨t1, rfl⟩ := Int.eq_ofNat_of_zero_le k1
    obtain ⟨t3, rfl⟩ := Int.eq_ofNat_of_zero_le k3
    obtain ⟨t4, rfl⟩ := Int.eq_ofNat_of_zero_le k4
    unfold RV.cells at q3
    simp only [List.cons.injEq, and_true] at q3
    obtain ⟨rfl, rfl, rfl, rfl, rfl⟩ := q3
    exact ⟨⟨t0, t1, v, t3, t4⟩, ⟨by show t0 < 256; omega, by show t1 < 256; omega, q1, q2, by show t3 < 256; omega, by show t4 < 256; omega⟩, rfl⟩
set_option maxRecDepth 100000 in
theorem open_nodes {fuel : Nat} {a0 : Option Addr} {len0 cap0 : Nat} {x : DataW H × List MemPlace} (h : DataW.trod enc Tryz.prog w base spare held fuel 22 [.slice a0 len0 cap0] = some x) (hw : ∀ n ∈ x.1.weights Tryz.prog 22, n ≤ reachBytes) :
    ∃ l : List Nd, l.length = len0 ∧ (∀ c ∈ l, c.Fit) ∧ Rd w (.slice a0 len0 cap0) len0 (ndCells l) ∧ len0 ≤ 9223372036854775807 :=
  open_flat Nd.cells 9 (fun _ => rfl) (by omega) Nd.Fit Tryz.underlying22 cellsNd (fun fuel cs x hh hk => open_nd hh hk) h hw
set_option maxRecDepth 100000 in
theorem open_u8 {r : Reach} {b0 : Nat} {v : Value} {d : DataW H} {p : List MemPlace} (hv : Value.okWide Tryz.prog w r b0 5 v) (h : DataW.Trod enc Tryz.prog w base spare held 5 v d p) : ∃ n : Nat, v = .int .u8 (n : Int) ∧ n < 256 := by
  obtain ⟨n, rfl⟩ := okWide_int Tryz.underlying5 hv
  obtain ⟨fuel, hf⟩ := h
  have hf2 : DataW.trod enc Tryz.prog w base spare held fuel 5 [.int .u8 n] = some (d, p) := hf
  obtain ⟨m, e, _, hw⟩ := DataW.trod_int Tryz.underlying5 hf2
  simp only [List.cons.injEq, and_true] at e
  injection e with _ e
  subst e
  obtain ⟨k0, l0⟩ := u8_lt hw
  obtain ⟨t, rfl⟩ := Int.eq_ofNat_of_zero_le k0
  exact ⟨t, rfl, by omega⟩
theorem sized_at {P : Program} {ts : List TypeId} {ds : List (DataW H)} (h : (DataW.weightsEach P ts ds).all (· ≤ reachBytes) = true) {j : Nat} {t : TypeId} {d : DataW H} (ht : ts[j]? = some t) (hd : ds[j]? = some d) : ∀ n ∈ d.weights P t, n ≤ reachBytes := fun n hn => by
  have := List.all_eq_true.1 h _ (DataW.weights_mem_each ht hd n hn)
  simpa using this
end
end Go.Proofs.YtgnoikfmhncbmaaGreatDoor
