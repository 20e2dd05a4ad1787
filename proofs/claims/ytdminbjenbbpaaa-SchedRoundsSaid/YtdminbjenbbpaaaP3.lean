/- Plain: running in turn. -/
import Derived.Test.YtdminbjenbbpaaaP2
namespace Go.Proofs.Ytdminbjenbbpaaa

/-- How many steps the machines that are alive still need, at most. -/
def pot : List (Option Nat) → List Int → List Int → Nat
  | some _ :: ms, e :: es, l :: ls => (if e < 0 then l.toNat else 0) + pot ms es ls
  | none :: ms, _ :: es, _ :: ls => pot ms es ls
  | _, _, _ => 0
theorem pot_on : ∀ (ms : List (Option Nat)) (es ls : List Int) (i b : Nat), ms[i]? = some (some b) → i < es.length → i < ls.length → es.getD i 0 < 0 → 1 ≤ ls.getD i 0 → pot ms es (ls.set i (max (ls.getD i 0 - 1) 0)) + 1 ≤ pot ms es ls
  | m :: ms, e :: es, l :: ls, 0, b, h, _, _, he, hl => by
    simp at h; subst h
    have he' : e < 0 := by simpa using he
    have hl' : 1 ≤ l := by simpa using hl
    simp only [List.getD_cons_zero, List.set_cons_zero, pot, he', if_true]; omega
  | m :: ms, e :: es, l :: ls, i + 1, b, h, h1, h2, he, hl => by
    have := pot_on ms es ls i b (by simpa using h) (by simpa using h1) (by simpa using h2) (by simpa using he) (by simpa using hl)
    cases m with
    | none => simpa [pot] using this
    | some x => simp only [List.getD_cons_succ, List.set_cons_succ, pot]; omega
  | [], _, _, _, _, h, _, _, _, _ => by simp at h
  | _ :: _, [], _, _, _, _, h, _, _, _ => by simp at h
  | _ :: _, _ :: _, [], _, _, _, _, h, _, _ => by simp at h
theorem pot_off : ∀ (ms : List (Option Nat)) (es ls : List Int) (i b : Nat) (q x : Int), ms[i]? = some (some b) → i < es.length → i < ls.length → es.getD i 0 < 0 → 1 ≤ ls.getD i 0 → 0 ≤ q → pot ms (es.set i q) (ls.set i x) + 1 ≤ pot ms es ls
  | m :: ms, e :: es, l :: ls, 0, b, q, x, h, _, _, he, hl, hq => by
    simp at h; subst h
    have he' : e < 0 := by simpa using he
    have hl' : 1 ≤ l := by simpa using hl
    simp only [List.set_cons_zero, pot, he', if_true, if_neg (show ¬ q < 0 by omega)]; omega
  | m :: ms, e :: es, l :: ls, i + 1, b, q, x, h, h1, h2, he, hl, hq => by
    have := pot_off ms es ls i b q x (by simpa using h) (by simpa using h1) (by simpa using h2) (by simpa using he) (by simpa using hl) hq
    cases m with
    | none => simpa [pot] using this
    | some y => simp only [List.set_cons_succ, pot]; omega
  | [], _, _, _, _, _, _, h, _, _, _, _, _ => by simp at h
  | _ :: _, [], _, _, _, _, _, _, h, _, _, _, _ => by simp at h
  | _ :: _, _ :: _, [], _, _, _, _, _, _, h, _, _, _ => by simp at h

/-- What holds of a run at every moment. -/
structure Inv (ms : List (Option Nat)) (T : Nat) (s : RS) : Prop where
  le : s.ended.length = ms.length
  ll : s.ls.length = ms.length
  al : s.left = alive ms s.ended
  pos : ∀ i b, ms[i]? = some (some b) → s.ended.getD i 0 < 0 → 1 ≤ s.ls.getD i 0
  tot : s.steps.length + pot ms s.ended s.ls ≤ T

theorem inv_step {ms : List (Option Nat)} {T : Nat} {s : RS} (h : Inv ms T s) (i : Nat) : Inv ms T (stepP ms s i) := by
  unfold stepP
  split
  · rename_i b hx
    split
    · rename_i he
      have hi : i < ms.length := by
        rcases Nat.lt_or_ge i ms.length with h1 | h1
        · exact h1
        · rw [List.getElem?_eq_none h1] at hx; cases hx
      have hie : i < s.ended.length := by rw [h.le]; exact hi
      have hil : i < s.ls.length := by rw [h.ll]; exact hi
      have hp := h.pos i b hx he
      by_cases hc : s.ls.getD i 0 ≤ 1
      · simp only [hc, if_true]
        refine ⟨by simp [h.le], by simp [h.ll], ?_, ?_, ?_⟩
        · show s.left - 1 = alive ms (s.ended.set i s.steps.length)
          rw [alive_set ms s.ended i b s.steps.length hx hie he (by omega), h.al]
        · intro j c hj hej
          by_cases hji : j = i
          · subst hji
            have : (s.ended.set j s.steps.length).getD j 0 = s.steps.length := getD_set_self _ _ _ hie
            simp only at hej; omega
          · have h1 : (s.ended.set i s.steps.length).getD j 0 = s.ended.getD j 0 := getD_set_ne _ _ _ _ hji
            have h2 : (s.ls.set i (max (s.ls.getD i 0 - 1) 0)).getD j 0 = s.ls.getD j 0 := getD_set_ne _ _ _ _ hji
            simp only at hej ⊢
            rw [h2]
            exact h.pos j c hj (by omega)
        · have := pot_off ms s.ended s.ls i b s.steps.length (max (s.ls.getD i 0 - 1) 0) hx hie hil he hp (by omega)
          have ht := h.tot
          simp only [List.length_append, List.length_cons, List.length_nil]; omega
      · simp only [hc, if_false]
        refine ⟨h.le, by simp [h.ll], h.al, ?_, ?_⟩
        · intro j c hj hej
          by_cases hji : j = i
          · subst hji
            have : (s.ls.set j (max (s.ls.getD j 0 - 1) 0)).getD j 0 = max (s.ls.getD j 0 - 1) 0 := getD_set_self _ _ _ hil
            simp only; omega
          · have h2 : (s.ls.set i (max (s.ls.getD i 0 - 1) 0)).getD j 0 = s.ls.getD j 0 := getD_set_ne _ _ _ _ hji
            simp only
            rw [h2]
            exact h.pos j c hj hej
        · have := pot_on ms s.ended s.ls i b hx hie hil he hp
          have ht := h.tot
          simp only [List.length_append, List.length_cons, List.length_nil]; omega
    · exact h
  · exact h

def inner1 (ms : List (Option Nat)) (bound : Int) (s : RS) (i : Nat) : RS := if bound ≤ s.steps.length then s else stepP ms s i
def innerP (ms : List (Option Nat)) (bound : Int) (s : RS) (k : Nat) : RS := (List.range k).foldl (inner1 ms bound) s
theorem innerP_succ (ms : List (Option Nat)) (bound : Int) (s : RS) (k : Nat) : innerP ms bound s (k + 1) = inner1 ms bound (innerP ms bound s k) k := by
  simp [innerP, List.range_succ]
def condP (bound : Int) (s : RS) : Prop := 0 < s.left ∧ (s.steps.length : Int) < bound
def rrP (ms : List (Option Nat)) (bound : Int) : Nat → RS → RS
  | 0, s => s
  | f + 1, s => if 0 < s.left ∧ (s.steps.length : Int) < bound then rrP ms bound f (innerP ms bound s ms.length) else s

theorem inv_inner {ms : List (Option Nat)} {T : Nat} {s : RS} (h : Inv ms T s) (bound : Int) (k : Nat) : Inv ms T (innerP ms bound s k) := by
  induction k with
  | zero => exact h
  | succ k ih =>
    rw [innerP_succ]
    unfold inner1
    split
    · exact ih
    · exact inv_step ih k
theorem stepP_mono (ms : List (Option Nat)) (s : RS) (i : Nat) : s.steps.length ≤ (stepP ms s i).steps.length := by
  unfold stepP
  split
  · split <;> simp
  · omega
theorem inner1_mono (ms : List (Option Nat)) (bound : Int) (s : RS) (i : Nat) : s.steps.length ≤ (inner1 ms bound s i).steps.length := by
  unfold inner1
  split
  · omega
  · exact stepP_mono ..
/-- Once the bound is reached nothing more happens. -/
theorem innerP_stop (ms : List (Option Nat)) (bound : Int) (s : RS) (k : Nat) (h : bound ≤ (innerP ms bound s k).steps.length) : ∀ j, innerP ms bound s (k + j) = innerP ms bound s k
  | 0 => rfl
  | j + 1 => by
    rw [← Nat.add_assoc, innerP_succ, innerP_stop ms bound s k h j, inner1, if_pos h]
/-- Some machine is alive. -/
theorem alive_some : ∀ (ms : List (Option Nat)) (es : List Int), 0 < alive ms es → ∃ i b, ms[i]? = some (some b) ∧ i < es.length ∧ es.getD i 0 < 0
  | some x :: ms, e :: es, h => by
    by_cases he : e < 0
    · exact ⟨0, x, rfl, by simp, by simpa using he⟩
    · simp only [alive, he, if_false] at h
      obtain ⟨i, b, h1, h2, h3⟩ := alive_some ms es (by omega)
      exact ⟨i + 1, b, by simpa using h1, by simpa using h2, by simpa using h3⟩
  | none :: ms, e :: es, h => by
    obtain ⟨i, b, h1, h2, h3⟩ := alive_some ms es (by simpa [alive] using h)
    exact ⟨i + 1, b, by simpa using h1, by simpa using h2, by simpa using h3⟩
  | [], _, h => by simp [alive] at h
  | some _ :: _, [], h => by simp [alive] at h
  | none :: _, [], h => by simp [alive] at h
/-- A round makes at least one step. -/
theorem inner_more {ms : List (Option Nat)} {T : Nat} {s : RS} (h : Inv ms T s) (bound : Int) (hc : condP bound s) : s.steps.length + 1 ≤ (innerP ms bound s ms.length).steps.length := by
  obtain ⟨h1, h2⟩ := hc
  rw [h.al] at h1
  obtain ⟨i, b, hi, hie, he⟩ := alive_some ms s.ended h1
  have hlt : i < ms.length := by
    rcases Nat.lt_or_ge i ms.length with h3 | h3
    · exact h3
    · rw [List.getElem?_eq_none h3] at hi; cases hi
  -- either a step came before i, or machine i is stepped
  have key : ∀ k, k ≤ i → innerP ms bound s k = s ∨ s.steps.length + 1 ≤ (innerP ms bound s k).steps.length := by
    intro k
    induction k with
    | zero => intro _; exact .inl rfl
    | succ k ih =>
      intro hk
      rw [innerP_succ]
      rcases ih (by omega) with e | e
      · rw [e]
        unfold inner1
        split
        · exact .inl rfl
        · unfold stepP
          split
          · split
            · right; simp
            · exact .inl rfl
          · exact .inl rfl
      · right
        exact Nat.le_trans e (inner1_mono ..)
  have at_i : s.steps.length + 1 ≤ (innerP ms bound s (i + 1)).steps.length := by
    rw [innerP_succ]
    rcases key i (Nat.le_refl _) with e | e
    · rw [e]
      unfold inner1
      rw [if_neg (by omega)]
      simp only [stepP, hi, he, if_true]
      simp
    · exact Nat.le_trans e (inner1_mono ..)
  have mono : ∀ j, (innerP ms bound s (i + 1)).steps.length ≤ (innerP ms bound s (i + 1 + j)).steps.length := by
    intro j
    induction j with
    | zero => exact Nat.le_refl _
    | succ j ih =>
      have e := innerP_succ ms bound s (i + 1 + j)
      have h2 := inner1_mono ms bound (innerP ms bound s (i + 1 + j)) (i + 1 + j)
      rw [← e] at h2
      exact Nat.le_trans ih h2
  have := mono (ms.length - (i + 1))
  rw [show i + 1 + (ms.length - (i + 1)) = ms.length from by omega] at this
  omega
end Go.Proofs.Ytdminbjenbbpaaa
