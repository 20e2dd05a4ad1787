/- Plain: the program's run and the specification's agree. -/
import Derived.Test.YtdminbjenbbpaaaS7
import Derived.Test.YtdminbjenbbpaaaR3
namespace Go.Proofs.Ytdminbjenbbpaaa

/-- The two states agree: of each machine that is alive, what is left is what it needs less how often it was stepped. -/
structure Agree (sizes : List Int) (s : RS) (l : RL) : Prop where
  st : s.steps = l.steps
  en : s.ended = l.ended
  le : s.ended.length = sizes.length
  ll : s.ls.length = sizes.length
  lv : ∀ i, i < sizes.length → s.ended.getD i 0 < 0 → s.ls.getD i 0 = max (sizes.getD i 0) 1 - occ i s.steps ∧ 1 ≤ s.ls.getD i 0

theorem occ_ne {m x : Int} (h : x ≠ m) (xs : List Int) : occ m (xs ++ [x]) = occ m xs := by rw [occ_snoc]; simp [h]
theorem occ_eq (m : Int) (xs : List Int) : occ m (xs ++ [m]) = occ m xs + 1 := by rw [occ_snoc]; simp

theorem getD_set_self (xs : List Int) (i : Nat) (v : Int) (h : i < xs.length) : (xs.set i v).getD i 0 = v := by
  rw [List.getD, List.getElem?_set_self h]; rfl
theorem getD_set_ne (xs : List Int) (i j : Nat) (v : Int) (h : j ≠ i) : (xs.set i v).getD j 0 = xs.getD j 0 := by
  rw [List.getD, List.getElem?_set_ne (Ne.symm h), List.getD]

theorem agree_step (sizes : List Int) (ms : List (Option Nat)) (hms : ms.length = sizes.length) (hnn : ∀ m ∈ ms, m ≠ none) (s : RS) (l : RL) (h : Agree sizes s l) (i : Nat) (hi : i < sizes.length) :
    Agree sizes (stepP ms s i) (if l.ended.getD i 0 < 0 then rstepP sizes l i else l) := by
  have hx : ms[i]? = some (ms[i]'(by omega)) := List.getElem?_eq_getElem (by omega)
  have hm := hnn _ (List.mem_of_getElem? hx)
  generalize ms[i]'(by omega) = x at hx hm
  cases x with
  | none => exact absurd rfl hm
  | some b =>
    simp only [stepP, hx]
    rw [← h.en]
    by_cases he : s.ended.getD i 0 < 0
    · rw [if_pos he, if_pos he]
      obtain ⟨h1, h2⟩ := h.lv i hi he
      have hil : i < s.ended.length := by rw [h.le]; exact hi
      have hill : i < s.ls.length := by rw [h.ll]; exact hi
      simp only [rstepP, ← h.st, ← h.en, occ_eq]
      have hc : (s.ls.getD i 0 ≤ 1) ↔ (((occ (i : Int) s.steps + 1 : Nat) : Int) = max (sizes.getD i 0) 1) := by omega
      refine ⟨rfl, ?_, ?_, ?_, ?_⟩
      · by_cases hcc : s.ls.getD i 0 ≤ 1
        · rw [if_pos hcc, if_pos (hc.1 hcc)]
        · rw [if_neg hcc, if_neg (fun hd => hcc (hc.2 hd))]
      · show (if s.ls.getD i 0 ≤ 1 then s.ended.set i s.steps.length else s.ended).length = sizes.length
        split
        · rw [List.length_set]; exact h.le
        · exact h.le
      · show (s.ls.set i _).length = sizes.length
        rw [List.length_set]; exact h.ll
      · intro j hj hej
        show (s.ls.set i (max (s.ls.getD i 0 - 1) 0)).getD j 0 = max (sizes.getD j 0) 1 - occ j (s.steps ++ [(i : Int)]) ∧ 1 ≤ (s.ls.set i (max (s.ls.getD i 0 - 1) 0)).getD j 0
        have hej2 : (if s.ls.getD i 0 ≤ 1 then s.ended.set i s.steps.length else s.ended).getD j 0 < 0 := hej
        by_cases hji : j = i
        · subst hji
          rw [getD_set_self _ _ _ hill, occ_eq]
          by_cases hcc : s.ls.getD j 0 ≤ 1
          · rw [if_pos hcc, getD_set_self _ _ _ hil] at hej2; omega
          · omega
        · rw [getD_set_ne _ _ _ _ hji, occ_ne (by omega)]
          refine h.lv j hj ?_
          split at hej2
          · rwa [getD_set_ne _ _ _ _ hji] at hej2
          · exact hej2
    · rw [if_neg he, if_neg he]; exact h

theorem agree_start (sizes : List Int) (ms : List (Option Nat)) (hms : ms.length = sizes.length) : Agree sizes (startS ms (begs sizes)) ⟨[], List.replicate sizes.length (-1)⟩ := by
  refine ⟨rfl, by simp [startS, hms], by simp [startS, hms], by simp [startS, begs], ?_⟩
  intro i hi _
  have : (begs sizes).getD i 0 = max (sizes.getD i 0) 1 := by simp [begs, List.getD, List.getElem?_eq_getElem hi]
  simp only [startS, this]
  simp [occ]; omega

theorem agree_run (sizes : List Int) (ms : List (Option Nat)) (hms : ms.length = sizes.length) (hnn : ∀ m ∈ ms, m ≠ none) (ps : List Int) : Agree sizes (runP ms (startS ms (begs sizes)) ps) (rrunP sizes ps) := by
  have key : ∀ (ps : List Int) (s : RS) (l : RL), Agree sizes s l → Agree sizes (ps.foldl (pickP ms) s) (ps.foldl (rpickP sizes) l) := by
    intro ps
    induction ps with
    | nil => intro s l h; exact h
    | cons p ps ih =>
      intro s l h
      rw [List.foldl_cons, List.foldl_cons]
      refine ih _ _ ?_
      by_cases h0 : sizes.length = 0
      · rw [show pickP ms s p = s from by unfold pickP; rw [if_neg (by omega)]]
        have hl : l.ended = [] := List.eq_nil_of_length_eq_zero (by rw [← h.en, h.le, h0])
        rw [show rpickP sizes l p = l from by unfold rpickP; split <;> simp [hl]]
        exact h
      · by_cases hp : p < 0
        · rw [show pickP ms s p = s from by unfold pickP; rw [if_neg (by omega)]]
          rw [show rpickP sizes l p = l from by unfold rpickP; rw [if_pos hp]]
          exact h
        · rw [show pickP ms s p = stepP ms s (p % ms.length).toNat from by unfold pickP; rw [if_pos (by omega)]]
          rw [show rpickP sizes l p = (if l.ended.getD (p % sizes.length).toNat 0 < 0 then rstepP sizes l (p % sizes.length).toNat else l) from by unfold rpickP; rw [if_neg hp]]
          rw [hms]
          have h1 : 0 ≤ p % (sizes.length : Int) := Int.emod_nonneg _ (by omega)
          have h2 : p % (sizes.length : Int) < sizes.length := Int.emod_lt_of_pos _ (by omega)
          exact agree_step sizes ms hms hnn s l h _ (by omega)
  exact key ps _ _ (agree_start sizes ms hms)
end Go.Proofs.Ytdminbjenbbpaaa
