/- The builtin clear of a map that the call owns. -/
import Derived.Test.YtpgjpoilcdkjgaaO8
namespace Go.Proofs.Ytpgjpoilcdkjgaa
open Go.RowKit Go.Maps Go.ChangeMaps Go.MapKept Go.WideShapes

theorem run_clear {H : Type} {P : Program} {w : World} {k e t : TypeId} {R : Value → Option (DataW H × List MemPlace)} {b n : Nat} {D : DataW H} (ty : TypeId) (h : w.ownsMap P k R b n D) (ht : P.underlying t = some (.map k e)) :
    ∃ w', (Builtin.clear_ #[t] ty #[.map (some b)]).run P w = .ok (.tuple #[]) w' ∧ w'.ownsMap P k R b 0 (.map []) ∧ Only (fun j => j = b) w w' := by
  obtain ⟨es, clock, hb, F, hs, rfl⟩ := h
  have hlt := heap_lt hb
  refine ⟨setBlock w b (.map #[] clock), ?_, ⟨#[], clock, heap_setBlock_same hb _, ⟨by simp, ?_, by simp⟩, by simp, rfl⟩, ⟨rfl, rfl, rfl, by simp [setBlock], fun j hj hne => heap_setBlock_other hb _ hne⟩⟩
  · have h1 := MapKept.run_getObj_map (P := P) hb
    have h2 := MapKept.run_setObj_map (P := P) (.map #[] clock) hb
    simp [Builtin.clear_, run_underlying ht, h1, h2, setBlock]
  · exact stamped_empty clock
/-- The same as a step of a region that draws its order. -/
theorem step_clear {H : Type} {P : Program} {w : World} {ops : Array Oper} {o : Oper} {a : Act} {K : Act → World → Prop} {Q : Exit → Act → World → Prop} {E : Prop} (hgd : o.guard = none) (x : Operand) (t k e : TypeId)
    (ho : o.op = .call { callee := .builtin .clear, args := #[x], argTypes := #[t] }) (R : Value → Option (DataW H × List MemPlace)) (b n : Nat) (D : DataW H) (hx : a.eval x = .map (some b)) (hown : w.ownsMap P k R b n D) (ht : P.underlying t = some (.map k e))
    (h : ∀ w', w'.ownsMap P k R b 0 (.map []) → Only (fun j => j = b) w w' → K (a.put o.dst (.tuple #[])) w') :
    if Region.wanted o (yielded ops a.tmps) = true then Oper.wp P o a w K Q else E := by
  have hw : Region.wanted o (yielded ops a.tmps) = true := by simp [Region.wanted, hgd]
  rw [if_pos hw]
  obtain ⟨w', hr, h2, h3⟩ := run_clear (P := P) o.type hown ht
  unfold Oper.wp execOp
  simp only [ho, resolve, invoke, builtin, Sem.run_bind, Sem.run_pure, Result.andThen_ok, List.map_toArray, List.map_cons, List.map_nil, hx, hr]
  exact h w' h2 h3
end Go.Proofs.Ytpgjpoilcdkjgaa
