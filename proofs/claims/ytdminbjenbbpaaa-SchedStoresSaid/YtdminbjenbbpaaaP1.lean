/- Plain facts on runs of machines: no program in sight. -/
import Derived.Test.YtdminbjenbbpaaaS1
namespace Go.Proofs.Ytdminbjenbbpaaa

/-- The state of a run: its log, how many machines are alive, what is left of each machine. -/
structure RS where
  steps : List Int
  ended : List Int
  left : Int
  ls : List Int
def stepP (ms : List (Option Nat)) (s : RS) (i : Nat) : RS :=
  match ms[i]? with
  | some (some _) =>
    if s.ended.getD i 0 < 0 then
      { steps := s.steps ++ [(i : Int)], ended := if s.ls.getD i 0 ≤ 1 then s.ended.set i s.steps.length else s.ended, left := if s.ls.getD i 0 ≤ 1 then s.left - 1 else s.left, ls := s.ls.set i (max (s.ls.getD i 0 - 1) 0) }
    else s
  | _ => s
def alive : List (Option Nat) → List Int → Int
  | some _ :: ms, e :: es => (if e < 0 then 1 else 0) + alive ms es
  | none :: ms, _ :: es => alive ms es
  | _, _ => 0
theorem alive_nonneg : ∀ (ms : List (Option Nat)) (es : List Int), 0 ≤ alive ms es
  | some _ :: ms, e :: es => by have := alive_nonneg ms es; simp only [alive]; split <;> omega
  | none :: ms, _ :: es => by simpa [alive] using alive_nonneg ms es
  | [], _ => by simp [alive]
  | some _ :: _, [] => by simp [alive]
  | none :: _, [] => by simp [alive]
theorem alive_le : ∀ (ms : List (Option Nat)) (es : List Int), alive ms es ≤ ms.length
  | some _ :: ms, e :: es => by have := alive_le ms es; simp only [alive, List.length_cons]; split <;> omega
  | none :: ms, _ :: es => by have := alive_le ms es; simp only [alive, List.length_cons]; omega
  | [], _ => by simp [alive]
  | some _ :: _, [] => by simp [alive]; omega
  | none :: _, [] => by simp [alive]; omega
theorem alive_set : ∀ (ms : List (Option Nat)) (es : List Int) (i b : Nat) (q : Int), ms[i]? = some (some b) → i < es.length → es.getD i 0 < 0 → 0 ≤ q → alive ms (es.set i q) = alive ms es - 1
  | m :: ms, e :: es, 0, b, q, h, _, he, hq => by
    simp at h; subst h
    simp at he
    simp only [List.set_cons_zero, alive, he, if_true]
    rw [if_neg (by omega)]; omega
  | m :: ms, e :: es, i + 1, b, q, h, hl, he, hq => by
    have := alive_set ms es i b q (by simpa using h) (by simpa using hl) (by simpa using he) hq
    cases m with
    | none => simpa [alive] using this
    | some x => simp only [List.set_cons_succ, alive, this]; omega
  | [], _, _, _, _, h, _, _, _ => by simp at h
  | _ :: _, [], _, _, _, _, hl, _, _ => by simp at hl
theorem alive_start : ∀ (ms : List (Option Nat)), alive ms (List.replicate ms.length (-1)) = ((ms.filter Option.isSome).length : Nat)
  | [] => rfl
  | none :: ms => by simpa [alive, List.replicate_succ] using alive_start ms
  | some x :: ms => by have := alive_start ms; simp [alive, List.replicate_succ, this]; omega
end Go.Proofs.Ytdminbjenbbpaaa
