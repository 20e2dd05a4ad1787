/- Contract of Closed. -/
import Derived.Test.YtjmdibgncaljaaaO2
namespace Go.Proofs.Ytjmdibgncaljaaa
open Go.RowKit

theorem info4 : (Try.prog.info? 4).map (fun i => (i.zero, i.size, i.bytes)) = some (some (.bool false), 1, 1) := by kernel_rfl

abbrev Mk := List Bool × List Nat
def markP (G : Gr) (s : Mk) (i : Int) : Option Mk :=
  if 0 ≤ i ∧ i < (G.ws.length : Int) then
    if s.1.getD i.toNat false = true then none else some (s.1.set i.toNat true, s.2.set (G.line i.toNat) (s.2.getD (G.line i.toNat) 0 + 1))
  else none
def markAll (G : Gr) : List Int → Mk → Option Mk
  | [], s => some s
  | i :: l, s => match markP G s i with | none => none | some s => markAll G l s
def mark0 (G : Gr) : Mk := (List.replicate G.ws.length false, List.replicate G.n 0)
def tail1 (G : Gr) (s : Mk) (k : Nat) : Bool := (List.range k).all fun i => s.1.getD i false == decide (G.rk.getD i 0 < s.2.getD (G.line i) 0)
def tail2 (G : Gr) (s : Mk) (k : Nat) : Bool := (List.range k).all fun i => decide (G.md.getD i 0 ≤ s.2.getD i 0)
def closedP (G : Gr) (set : List Int) : Bool :=
  decide (set.length ≤ G.ws.length) && match markAll G set (mark0 G) with | none => false | some s => tail1 G s G.ws.length && tail2 G s G.n

theorem markAll_snoc (G : Gr) (i : Int) : ∀ (l : List Int) (s : Mk), markAll G (l ++ [i]) s = (markAll G l s).bind fun s => markP G s i
  | [], s => by simp only [List.nil_append, markAll, Option.bind_some]; cases markP G s i <;> rfl
  | j :: l, s => by
    simp only [List.cons_append, markAll]
    cases h : markP G s j with
    | none => rfl
    | some s' => exact markAll_snoc G i l s'
theorem markAll_none (G : Gr) : ∀ (l m : List Int) (s : Mk), markAll G l s = none → markAll G (l ++ m) s = none
  | [], m, s, h => by simp [markAll] at h
  | j :: l, m, s, h => by
    simp only [List.cons_append, markAll] at *
    cases h2 : markP G s j with
    | none => rfl
    | some s' => rw [h2] at h; exact markAll_none G l m s' h
theorem tail1_succ (G : Gr) (s : Mk) (k : Nat) : tail1 G s (k + 1) = (tail1 G s k && (s.1.getD k false == decide (G.rk.getD k 0 < s.2.getD (G.line k) 0))) := by simp [tail1, List.range_succ]
theorem tail2_succ (G : Gr) (s : Mk) (k : Nat) : tail2 G s (k + 1) = (tail2 G s k && decide (G.md.getD k 0 ≤ s.2.getD k 0)) := by simp [tail2, List.range_succ]
theorem tail1_false (G : Gr) (s : Mk) : ∀ (n k : Nat), k ≤ n → tail1 G s k = false → tail1 G s n = false := by
  intro n k h
  induction h with
  | refl => exact id
  | step _ ih => intro h; rw [tail1_succ, ih h]; rfl
theorem tail2_false (G : Gr) (s : Mk) : ∀ (n k : Nat), k ≤ n → tail2 G s k = false → tail2 G s n = false := by
  intro n k h
  induction h with
  | refl => exact id
  | step _ ih => intro h; rw [tail2_succ, ih h]; rfl

structure MkSt (wr : World) (b c : Nat) (G : Gr) (k : Nat) (s : Mk) : Prop where
  ib : Has wr b (s.1.map .bool) 4
  tb : Has wr c (nats s.2) 3
  il : s.1.length = G.ws.length
  tl : s.2.length = G.n
  le : ∀ t ∈ s.2, t ≤ k

theorem mark0_bools (n : Nat) : (List.replicate n false).map Value.bool = List.replicate n (Value.bool false) := by simp
theorem mark0_nats (n : Nat) : nats (List.replicate n 0) = List.replicate n (Value.int .i64 0) := by simp [nats]
end Go.Proofs.Ytjmdibgncaljaaa
