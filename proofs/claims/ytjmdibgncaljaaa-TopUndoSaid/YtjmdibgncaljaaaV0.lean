/- Drawn regions whose steps that change the world are one chain: a class of worlds for each history of their values. -/
import Derived.Test.YtjmdibgncaljaaaQP
namespace Go.Proofs.Ytjmdibgncaljaaa
open Go
/-- The steps done so far have given these values. -/
def ChC (Ph : List Value → World → Prop) (n : Nat) (H : Nat → Option Value) (w : World) : Prop := ∃ vs : List Value, vs.length ≤ n ∧ (∀ s, H s = vs[s]?) ∧ Ph vs w
section
variable {Ph : List Value → World → Prop} {n : Nat} {H : Nat → Option Value} {w : World} {Hf : Nat → Value}
theorem ChC.start (h : Ph [] w) : ChC Ph n (fun _ => none) w := ⟨[], by simp, by simp, h⟩
theorem setP_snoc {vs : List Value} (h : ∀ s, H s = vs[s]?) (v : Value) : ∀ s, setP H vs.length v s = (vs ++ [v])[s]? := fun s => by
  unfold setP
  by_cases e : s = vs.length
  · rw [if_pos e, e]; simp
  · rw [if_neg e, h s]
    rcases Nat.lt_or_ge s vs.length with g | g
    · rw [List.getElem?_append_left g]
    · rw [List.getElem?_append_right g, List.getElem?_eq_none g]
      rw [List.getElem?_eq_none (by simp only [List.length_singleton]; omega)]
theorem ChC.ex (hx : ∀ vs w, vs.length < n → Ph vs w → ∃ v w', Ph (vs ++ [v]) w') (H : Nat → Option Value) (w : World) (h : ChC Ph n H w) (hn : ∃ s, s < n ∧ H s = none) : ∃ s v w', s < n ∧ H s = none ∧ ChC Ph n (setP H s v) w' := by
  obtain ⟨vs, h1, h2, h3⟩ := h
  obtain ⟨s, hs, he⟩ := hn
  have hl : vs.length < n := by
    rw [h2, List.getElem?_eq_none_iff] at he; omega
  obtain ⟨v, w', h4⟩ := hx vs w hl h3
  exact ⟨vs.length, v, w', hl, by rw [h2]; simp, vs ++ [v], by simp; omega, setP_snoc h2 v, h4⟩
theorem ChC.at {nds : List Nat} (h : clsP (ChC Ph n) Hf nds w) : ∃ vs, vs.length ≤ n ∧ Ph vs w ∧ (∀ (s : Nat) v, vs[s]? = some v → Hf s = v) ∧ ∀ p ∈ nds, p < vs.length := by
  obtain ⟨H, h1, h2, vs, h3, h4, h5⟩ := h
  refine ⟨vs, h3, h5, fun s v hv => h1 s v (by rw [h4, hv]), fun p hp => ?_⟩
  have := h2 p hp
  rw [h4] at this
  rcases Nat.lt_or_ge p vs.length with g | g
  · exact g
  · rw [List.getElem?_eq_none g] at this; cases this
theorem ChC.done (h : ChC Ph n (fullP n Hf) w) : Ph ((List.range n).map Hf) w := by
  obtain ⟨vs, h1, h2, h3⟩ := h
  have hl : vs.length = n := by
    rcases Nat.lt_or_ge vs.length n with g | g
    · have := h2 vs.length
      unfold fullP at this
      rw [if_pos g] at this
      simp at this
    · omega
  have e : vs = (List.range n).map Hf := by
    apply List.ext_getElem?
    intro s
    rw [← h2 s]
    unfold fullP
    by_cases g : s < n
    · rw [if_pos g, List.getElem?_map, List.getElem?_range g]; rfl
    · rw [if_neg g, List.getElem?_eq_none (by simp; omega)]
  rw [← e]; exact h3
/-- Step number s: the ones before it are done. -/
theorem ChC.step {s : Nat} (h : ChC Ph n H w) (hn : H s = none) (hp : s = 0 ∨ (H (s - 1)).isSome = true) (hs : s < n) (hf : subP H Hf) :
    ∃ vs, vs.length = s ∧ Ph vs w ∧ (∀ (j : Nat) v, vs[j]? = some v → Hf j = v) ∧ ∀ v w', Ph (vs ++ [v]) w' → ChC Ph n (setP H s v) w' := by
  obtain ⟨vs, h1, h2, h3⟩ := h
  have hl : vs.length = s := by
    rw [h2, List.getElem?_eq_none_iff] at hn
    rcases hp with rfl | hp
    · omega
    · rw [h2] at hp
      rcases Nat.lt_or_ge (s - 1) vs.length with g | g
      · omega
      · rw [List.getElem?_eq_none g] at hp; cases hp
  subst hl
  refine ⟨vs, rfl, h3, fun j v hv => hf j v (by rw [h2, hv]), fun v w' h4 => ⟨vs ++ [v], by simp; omega, setP_snoc h2 v, h4⟩⟩
end
section
variable {P : Program} {ops : Array Oper} {C : (Nat → Option Value) → World → Prop} {rk : Nat → Option Nat} {pre nd : Nat → List Nat} {Hf : Nat → Value}
/-- An operation that gives a value and leaves the world, of whatever kind. -/
theorem part_pure {k : Nat} {o : Oper} {rest : List Oper} {a : Act} {Q : Act → Prop} {v : Value} {a' : Act} (ha : a.put o.dst v = a') (hrk : rk k = none) (hw : Region.wanted o (yielded ops a.tmps) = true)
    (hc : ∀ w, (execOp a.eval o).run P w = .ok (.value v) w) (h : wpLexP P ops C rk pre nd Hf Q (k + 1) rest a') : wpLexP P ops C rk pre nd Hf Q k (o :: rest) a := by
  unfold wpLexP
  rw [if_pos hw]
  refine ⟨v, ?_, by rw [ha]; exact h⟩
  unfold EP; simp only [hrk]
  intro H w _ _ _
  rw [hc w]
  exact ⟨rfl, rfl⟩
end
end Go.Proofs.Ytjmdibgncaljaaa
