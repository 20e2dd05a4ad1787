/- The classes of the law PlanHolds' regions: the values of a row, Eval; a row with its id behind it. -/
import Derived.Test.YtgnoikfmhncbmaaGreatDoorV4
import Derived.Test.YtgnoikfmhncbmaaGreatDoorV1
import Derived.Test.YtgnoikfmhncbmaaGreatDoorE2
set_option linter.unusedVariables false
set_option linter.unusedSimpArgs false
namespace Go.Proofs.YtgnoikfmhncbmaaGreatDoor
open Go.RowKit Go.Lib
/-- Region 7: the values of the row, Eval. -/
def EvC (w0 : World) (L : List RV) (z : Bool) : List Value → World → Prop
  | [], w => Below w0.heap.size w0 w
  | [r], w => ∃ b, r = .slice (some ⟨b, 0, none⟩) 4 4 ∧ Has w b (vCells L) 28 ∧ w0.heap.size ≤ b ∧ Below w0.heap.size w0 w
  | [r, x], w => (∃ b, r = .slice (some ⟨b, 0, none⟩) 4 4) ∧ x = .tuple #[.bool z, .int .i64 0] ∧ Below w0.heap.size w0 w
  | _, _ => False
theorem EvC.below {w0 : World} {L : List RV} {z : Bool} : ∀ {vs : List Value} {w : World}, EvC w0 L z vs w → Below w0.heap.size w0 w
  | [], _, h => h
  | [_], _, h => by obtain ⟨_, _, _, _, h⟩ := h; exact h
  | [_, _], _, h => h.2.2
  | _ :: _ :: _ :: _, _, h => h.elim
theorem EvC.ex {w0 : World} {L : List RV} {z : Bool} : ∀ (vs : List Value) (w : World), vs.length < 2 → EvC w0 L z vs w → ∃ v w', EvC w0 L z (vs ++ [v]) w'
  | [], w, _, h => ⟨_, w.alloc (.cells (vCells L).toArray 28), w.heap.size, rfl, Has.new w _ _, h.size, h.alloc h.size _⟩
  | [_], w, _, h => by obtain ⟨b, h1, _, _, h4⟩ := h; exact ⟨_, w, ⟨b, h1⟩, rfl, h4⟩
  | [_, _], _, hl, _ => by simp at hl
  | _ :: _ :: _ :: _, _, hl, _ => by simp at hl; omega
theorem callUpon_app {w w' : World} {V : Value → World → Prop} {o : Oper} {a : Act} (s x : Operand) (t : TypeId) (ho : o.op = .call { callee := .builtin .append, args := #[s, x], argTypes := #[t, t] }) {y : Value}
    (hr : (Builtin.append_ #[t, t] o.type #[a.eval s, a.eval x]).run Tryz.prog w = .ok y w') (hc : V y w') : callUpon Tryz.prog w V ((execOp a.eval o).run Tryz.prog w) := by
  unfold execOp
  simp only [ho, resolve, invoke, builtin, Sem.run_bind, Sem.run_pure, Result.andThen_ok, List.map_toArray, List.map_cons, List.map_nil, hr]
  exact hc
end Go.Proofs.YtgnoikfmhncbmaaGreatDoor
