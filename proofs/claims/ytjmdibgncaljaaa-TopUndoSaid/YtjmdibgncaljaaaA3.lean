/- An argument that is a slice of slices of saves. -/
import Derived.Test.YtjmdibgncaljaaaUY
import Derived.Deep.Slices
import Derived.Deep.Fields
import Derived.ChangeSame
namespace Go.Proofs.Ytjmdibgncaljaaa
open Go.RowKit Go.ChangeShapes Go.WideShapes Go.Deep
theorem els_list {α : Type} {w : World} {b off sz : Nat} (P : α → Prop) (f : α → List Value) (hf : ∀ a, (f a).length = sz) : ∀ len : Nat, (∀ i, i < len → ∃ a : α, P a ∧ ∀ j v, (f a)[j]? = some v → w.cell? ⟨b, off + i * sz + j, none⟩ = some v) →
    ∃ l : List α, l.length = len ∧ (∀ a ∈ l, P a) ∧ ∀ j u, (l.flatMap f)[j]? = some u → w.cell? ⟨b, off + j, none⟩ = some u
  | 0, _ => ⟨[], rfl, by simp, by simp⟩
  | len + 1, h => by
    obtain ⟨l, hl, hp, hc⟩ := els_list P f hf len (fun i hi => h i (by omega))
    obtain ⟨a, ha, hac⟩ := h len (by omega)
    have hal : (l.flatMap f).length = len * sz := by
      rw [← hl]
      clear hc hp hl
      induction l with
      | nil => simp
      | cons s l ih => rw [List.flatMap_cons, List.length_append, ih, hf, List.length_cons, Nat.add_mul]; omega
    refine ⟨l ++ [a], by simp [hl], ?_, ?_⟩
    · intro x hx
      simp only [List.mem_append, List.mem_singleton] at hx
      rcases hx with hx | rfl
      · exact hp x hx
      · exact ha
    · intro j u hj
      have e : (l ++ [a]).flatMap f = l.flatMap f ++ f a := by simp
      rw [e] at hj
      rcases Nat.lt_or_ge j (l.flatMap f).length with h1 | h1
      · rw [List.getElem?_append_left h1] at hj; exact hc j u hj
      · rw [List.getElem?_append_right h1] at hj
        have := hac _ u hj
        rw [hal] at this h1
        have e2 : off + len * sz + (j - len * sz) = off + j := by omega
        rw [e2] at this
        exact this
theorem u8_ltS {n : Int} (h : (Lit.int .u8 n).wf = true) : 0 ≤ n ∧ n < 256 := by
  simp only [Lit.wf, Bool.and_eq_true, decide_eq_true_eq] at h
  have e1 : IntKind.min .u8 = 0 := by decide
  have e2 : IntKind.max .u8 = 255 := by decide
  rw [e1, e2] at h
  omega
theorem u64_ltS {n : Int} (h : (Lit.int .u64 n).wf = true) : 0 ≤ n ∧ n < 18446744073709551616 := by
  simp only [Lit.wf, Bool.and_eq_true, decide_eq_true_eq] at h
  have e1 : IntKind.min .u64 = 0 := by decide
  have e2 : IntKind.max .u64 = 18446744073709551615 := by decide
  rw [e1, e2] at h
  omega
section
variable {H : Type} {enc : TypeId × Value → H} {w : World} {base : Nat} {spare : Nat → Bool} {held : Bool}
theorem open_row {α : Type} {T E : TypeId} (hu : Try.prog.underlying T = some (.slice E)) (sz : Nat) (hsz : Try.prog.cellsOf E = sz) (hs0 : 0 < sz) (P : α → Prop) (f : α → List Value) (hf : ∀ a, (f a).length = sz)
    (hP : ∀ fuel cs x, DataW.trod enc Try.prog w base spare held fuel E cs = some x → cs.length = sz → ∃ a, P a ∧ cs = f a)
    {fuel : Nat} {cs : List Value} {x : DataW H × List MemPlace} (h : DataW.trod enc Try.prog w base spare held fuel T cs = some x) :
    ∃ (a0 : Option Addr) (cap0 : Nat) (l : List α), cs = [.slice a0 l.length cap0] ∧ (∀ a ∈ l, P a) ∧ Rd w (.slice a0 l.length cap0) l.length (l.flatMap f) ∧ l.length ≤ 9223372036854775807 ∧ l.length ≤ cap0 := by
  rcases open_slice hu h with ⟨hc, _⟩ | ⟨a, len, cap, m, n, D, Pl, hc, _, hl, hm, hmm, _, hi⟩
  · exact ⟨none, 0, [], hc, by simp, Rd.nil w, by simp, by simp⟩
  · have hlm : len ≤ m := by rw [hmm]; split <;> omega
    have hmax : len ≤ 9223372036854775807 := by unfold maxLen at hm; omega
    by_cases h0 : len = 0
    · subst h0
      exact ⟨some a, cap, [], hc, by simp, ⟨_, _, rfl, .inl ⟨rfl, rfl⟩⟩, by simp, by simp⟩
    · have step : ∀ i, i < len → ∃ ac : α, P ac ∧ ∀ j v, (f ac)[j]? = some v → w.cell? ((a.add (i * sz)).add j) = some v := by
        intro i hil
        obtain ⟨cs', hcs, ht⟩ := hi i (by omega)
        rw [hsz] at hcs
        obtain ⟨_, hcl, hat⟩ := World.cells?_some hcs
        obtain ⟨ac, hp, rfl⟩ := hP _ _ _ ht (by exact hcl)
        refine ⟨ac, hp, fun j v hj => ?_⟩
        have hj3 : j < sz := by
          rcases Nat.lt_or_ge j sz with h1 | h1
          · exact h1
          · rw [List.getElem?_eq_none (by rw [hf]; exact h1)] at hj; cases hj
        rw [hat j hj3]; exact hj
      obtain ⟨ac0, _, hc0⟩ := step 0 (by omega)
      have hz := hc0 0 _ (List.getElem?_eq_getElem (by rw [hf]; exact hs0))
      obtain ⟨b, off, spot⟩ := a
      have hs : spot = none := by
        have := World.cell?_spot hz
        simpa [Addr.add] using this
      subst hs
      obtain ⟨l, h1, h2, h3⟩ := els_list (w := w) (b := b) (off := off) P f hf len (fun i hil => by
        obtain ⟨ac, hp, hc⟩ := step i hil
        refine ⟨ac, hp, fun j v hj => ?_⟩
        have := hc j v hj
        have e : ((Addr.mk b off none).add (i * sz)).add j = ⟨b, off + i * sz + j, none⟩ := by
          unfold Addr.add
          split <;> split <;> simp_all
        rw [e] at this
        exact this)
      subst h1
      exact ⟨some ⟨b, off, none⟩, cap, l, hc, h2, ⟨_, _, rfl, .inr ⟨b, off, rfl, h3⟩⟩, hmax, by omega⟩
theorem cellsU8S : Try.prog.cellsOf 5 = 1 := by kernel_rfl
theorem cellsSU8 : Try.prog.cellsOf 28 = 1 := by kernel_rfl
theorem cellsCSv : Try.prog.cellsOf 75 = 2 := by kernel_rfl
theorem cellsSCSv : Try.prog.cellsOf 76 = 1 := by kernel_rfl
theorem flat_u8 (l : List Nat) : l.flatMap (fun m : Nat => [Value.int .u8 (m : Int)]) = Dev.u8s l := by
  induction l with
  | nil => rfl
  | cons x l ih => rw [List.flatMap_cons, ih]; rfl
theorem open_bys {fuel : Nat} {cs : List Value} {x : DataW H × List MemPlace} (h : DataW.trod enc Try.prog w base spare held fuel 28 cs = some x) : ∃ (ws : List Nat) (y : Value), cs = [y] ∧ BytesV w y ws := by
  obtain ⟨a0, c0, l, hc, hp, hr, hm, hl⟩ := open_row (α := Nat) Try.underlying28 1 cellsU8S (by decide) (fun m => m < 256) (fun m => [.int .u8 (m : Int)]) (fun _ => rfl) (fun fuel cs x h hcs => by
    match cs, hcs with
    | [c], _ =>
      obtain ⟨k, hk, _, hw⟩ := DataW.trod_int Try.underlying5 h
      obtain ⟨h0, h1⟩ := u8_ltS hw
      obtain ⟨m, rfl⟩ := Int.eq_ofNat_of_zero_le h0
      exact ⟨m, by omega, hk⟩) h
  rw [flat_u8] at hr
  exact ⟨l, _, hc, a0, c0, rfl, hl, hm, hp, hr⟩
set_option maxRecDepth 100000 in
theorem open_csv {fuel : Nat} {cs : List Value} {x : DataW H × List MemPlace} (h : DataW.trod enc Try.prog w base spare held fuel 75 cs = some x) : ∃ p : CS × Value, (BytesV w p.2 p.1.ws ∧ p.1.v < 18446744073709551616) ∧ cs = [p.2, .int .u64 (p.1.v : Int)] := by
  obtain ⟨xs, n, rfl, _, hcl, hxl, hf⟩ := DataW.trod_struct Try.underlying75 h
  rw [cellsCSv] at hcl
  match cs, hcl with
  | [c0, c1], _ =>
    have hx2 : xs.length = 2 := hxl
    have h0 := hf 0 _ rfl
    have h1 := hf 1 _ rfl
    have g0 : DataW.trod enc Try.prog w base spare held n 28 [c0] = xs[0]? := h0
    have g1 : DataW.trod enc Try.prog w base spare held n 27 [c1] = xs[1]? := h1
    rw [List.getElem?_eq_getElem (by omega)] at g0 g1
    obtain ⟨ws, y, hc, hb⟩ := open_bys g0
    obtain ⟨k, hk, _, hw⟩ := DataW.trod_int Try.underlying27 g1
    obtain ⟨k0, k1⟩ := u64_ltS hw
    obtain ⟨m, rfl⟩ := Int.eq_ofNat_of_zero_le k0
    simp only [List.cons.injEq, and_true] at hk hc
    subst hk; subst hc
    exact ⟨(⟨ws, m⟩, c0), ⟨hb, by show m < 18446744073709551616; omega⟩, rfl⟩
theorem flat_csv (l : List (CS × Value)) : l.flatMap (fun p => [p.2, Value.int .u64 (p.1.v : Int)]) = svC (l.map fun p => (p.2, p.1.v)) := by
  unfold svC
  rw [List.flatMap_map]
theorem open_svs {fuel : Nat} {cs : List Value} {x : DataW H × List MemPlace} (h : DataW.trod enc Try.prog w base spare held fuel 76 cs = some x) : ∃ p : List CS × Value, (SavesV w p.2 p.1 ∧ ∃ a n c, p.2 = .slice a n c) ∧ cs = [p.2] := by
  obtain ⟨a0, c0, l, hc, hp, hr, hm, hl⟩ := open_row (α := CS × Value) Try.underlying76 2 cellsCSv (by decide) (fun p => BytesV w p.2 p.1.ws ∧ p.1.v < 18446744073709551616) (fun p => [p.2, .int .u64 (p.1.v : Int)]) (fun _ => rfl) (fun fuel cs x h _ => open_csv h) h
  rw [flat_csv] at hr
  refine ⟨(l.map Prod.fst, .slice a0 l.length c0), ⟨⟨a0, c0, l.map fun p => (p.2, p.1.v), by rw [List.length_map], by rw [List.length_map]; exact hl, by rw [List.length_map]; exact hm, by rw [List.length_map]; exact hr, fun i x hx => ?_⟩, a0, l.length, c0, rfl⟩, hc⟩
  rw [List.getElem?_map] at hx
  cases hi : l[i]? with
  | none => rw [hi] at hx; cases hx
  | some p =>
    rw [hi] at hx
    simp only [Option.map_some, Option.some.injEq] at hx
    subst hx
    have := hp p (List.mem_of_getElem? hi)
    exact ⟨p.2, by rw [List.getElem?_map, hi]; rfl, this.1, this.2⟩
theorem flat_one (l : List (List CS × Value)) : l.flatMap (fun p => [p.2]) = l.map Prod.snd := by
  induction l with
  | nil => rfl
  | cons x l ih => rw [List.flatMap_cons, ih]; rfl
theorem open_rounds {fuel : Nat} {v : Value} {x : DataW H × List MemPlace} (h : DataW.trod enc Try.prog w base spare held fuel 63 [v] = some x) : ∃ rs : List (List CS), RoundsV w v rs := by
  obtain ⟨a0, c0, l, hc, hp, hr, hm, hl⟩ := open_row (α := List CS × Value) Try.underlying63 1 cellsSCSv (by decide) (fun p => SavesV w p.2 p.1 ∧ ∃ a n c, p.2 = .slice a n c) (fun p => [p.2]) (fun _ => rfl) (fun fuel cs x h _ => open_svs h) h
  rw [flat_one] at hr
  simp only [List.cons.injEq, and_true] at hc
  subst hc
  refine ⟨l.map Prod.fst, a0, c0, l.map Prod.snd, by rw [List.length_map], by rw [List.length_map]; exact hl, by rw [List.length_map]; exact hm, by rw [List.length_map, List.length_map], by rw [List.length_map]; exact hr, fun y hy => ?_, fun i x hx => ?_⟩
  · obtain ⟨p, hpm, rfl⟩ := List.mem_map.1 hy
    exact (hp p hpm).2
  · rw [List.getElem?_map] at hx
    cases hi : l[i]? with
    | none => rw [hi] at hx; cases hx
    | some p =>
      rw [hi] at hx
      simp only [Option.map_some, Option.some.injEq] at hx
      subst hx
      exact ⟨p.2, by rw [List.getElem?_map, hi]; rfl, (hp p (List.mem_of_getElem? hi)).1⟩
end
end Go.Proofs.Ytjmdibgncaljaaa
