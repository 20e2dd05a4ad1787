/- Plain: running in turn, the program's way and the specification's. -/
import Derived.Test.YtdminbjenbbpaaaP3
namespace Go.Proofs.Ytdminbjenbbpaaa

def allE (es : List Int) : Bool := es.all (fun e => decide (0 ≤ e))
def rinner1 (sizes : List Int) (bound : Int) (l : RL) (i : Nat) : RL := if bound ≤ l.steps.length then l else if l.ended.getD i 0 < 0 then rstepP sizes l i else l
def rinnerP (sizes : List Int) (bound : Int) (l : RL) (k : Nat) : RL := (List.range k).foldl (rinner1 sizes bound) l
theorem rinnerP_succ (sizes : List Int) (bound : Int) (l : RL) (k : Nat) : rinnerP sizes bound l (k + 1) = rinner1 sizes bound (rinnerP sizes bound l k) k := by
  simp [rinnerP, List.range_succ]
def rrR (sizes : List Int) (bound : Int) : Nat → RL → RL
  | 0, l => l
  | f + 1, l => if (l.steps.length : Int) < bound ∧ allE l.ended = false then rrR sizes bound f (rinnerP sizes bound l sizes.length) else l

theorem agree_inner (sizes : List Int) (ms : List (Option Nat)) (hms : ms.length = sizes.length) (hnn : ∀ m ∈ ms, m ≠ none) (bound : Int) (s : RS) (l : RL) (h : Agree sizes s l) : ∀ k, k ≤ sizes.length → Agree sizes (innerP ms bound s k) (rinnerP sizes bound l k) := by
  intro k
  induction k with
  | zero => intro _; exact h
  | succ k ih =>
    intro hk
    have h1 := ih (by omega)
    rw [innerP_succ, rinnerP_succ]
    unfold inner1 rinner1
    rw [h1.st]
    split
    · exact h1
    · exact agree_step sizes ms hms hnn _ _ h1 k (by omega)

theorem alive_all : ∀ (ms : List (Option Nat)) (es : List Int), ms.length = es.length → (∀ m ∈ ms, m ≠ none) → (0 < alive ms es ↔ allE es = false)
  | [], [], _, _ => by simp [alive, allE]
  | none :: _, _, _, h => absurd rfl (h none (by simp))
  | some x :: ms, e :: es, hl, h => by
    have ih := alive_all ms es (by simpa using hl) (fun m hm => h m (List.mem_cons_of_mem _ hm))
    have hn := alive_nonneg ms es
    by_cases he : e < 0
    · simp only [alive, he, if_true, allE, List.all_cons]
      rw [show decide (0 ≤ e) = false from by simp; omega]
      simp; omega
    · simp only [alive, he, if_false, allE, List.all_cons]
      rw [show decide (0 ≤ e) = true from by simp; omega]
      simp only [Bool.true_and]
      have e0 : (0 : Int) + alive ms es = alive ms es := by omega
      rw [e0]
      exact ih
  | [], _ :: _, h, _ => by simp at h
  | some _ :: _, [], h, _ => by simp at h

theorem agree_rr (sizes : List Int) (ms : List (Option Nat)) (hms : ms.length = sizes.length) (hnn : ∀ m ∈ ms, m ≠ none) (bound : Int) (T : Nat) : ∀ f s l, Agree sizes s l → Inv ms T s → Agree sizes (rrP ms bound f s) (rrR sizes bound f l) := by
  intro f
  induction f with
  | zero => intro s l h _; exact h
  | succ f ih =>
    intro s l h hi
    have hc : (0 < s.left ∧ (s.steps.length : Int) < bound) ↔ ((l.steps.length : Int) < bound ∧ allE l.ended = false) := by
      rw [hi.al, alive_all ms s.ended (by rw [hi.le]) hnn, h.st, h.en]
      exact And.comm
    unfold rrP rrR
    by_cases hcc : 0 < s.left ∧ (s.steps.length : Int) < bound
    · rw [if_pos hcc, if_pos (hc.1 hcc), hms]
      exact ih _ _ (agree_inner sizes ms hms hnn bound s l h _ (Nat.le_refl _)) (inv_inner hi bound _)
    · rw [if_neg hcc, if_neg (fun hd => hcc (hc.2 hd))]
      exact h

theorem inv_rr {ms : List (Option Nat)} {T : Nat} (bound : Int) : ∀ f s, Inv ms T s → Inv ms T (rrP ms bound f s) := by
  intro f
  induction f with
  | zero => intro s h; exact h
  | succ f ih =>
    intro s h
    unfold rrP
    split
    · exact ih _ (inv_inner h bound _)
    · exact h

theorem pot_start : ∀ (ms : List (Option Nat)) (es ls : List Int), (∀ l ∈ ls, l ≤ 20) → pot ms es ls ≤ 20 * ls.length
  | some x :: ms, e :: es, l :: ls, h => by
    have ih := pot_start ms es ls (fun x hx => h x (List.mem_cons_of_mem _ hx))
    have := h l (by simp)
    simp only [pot, List.length_cons]
    split <;> omega
  | none :: ms, e :: es, l :: ls, h => by
    have ih := pot_start ms es ls (fun x hx => h x (List.mem_cons_of_mem _ hx))
    simp only [pot, List.length_cons]; omega
  | [], _, _, _ => by simp [pot]
  | some _ :: _, [], _, _ => by simp [pot]
  | none :: _, [], _, _ => by simp [pot]
  | some _ :: _, _ :: _, [], _ => by simp [pot]
  | none :: _, _ :: _, [], _ => by simp [pot]
theorem inv_start (ms : List (Option Nat)) (sizes : List Int) (hms : ms.length = sizes.length) (hb : ∀ z ∈ sizes, z ≤ 20) : Inv ms (20 * sizes.length) (startS ms (begs sizes)) := by
  refine ⟨by simp [startS], by simp [startS, begs, hms], ?_, ?_, ?_⟩
  · simp only [startS]; rw [alive_start]; rfl
  · intro i b hi _
    have hlt : i < sizes.length := by
      rw [← hms]
      rcases Nat.lt_or_ge i ms.length with h1 | h1
      · exact h1
      · rw [List.getElem?_eq_none h1] at hi; cases hi
    have : (begs sizes).getD i 0 = max (sizes.getD i 0) 1 := by simp [begs, List.getD, List.getElem?_eq_getElem hlt]
    simp only [startS, this]; omega
  · have := pot_start ms (List.replicate ms.length (-1)) (begs sizes) (fun l hl => by
      simp only [begs, List.mem_map] at hl
      obtain ⟨z, hz, rfl⟩ := hl
      have := hb z hz; omega)
    simp only [startS, List.length_nil, Nat.zero_add]
    simpa [begs] using this
end Go.Proofs.Ytdminbjenbbpaaa
