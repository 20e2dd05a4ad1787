/- The classes of the law PlanHolds' regions: the values of a row, Eval; a row with its id behind it. -/
import Derived.Test.YtgnoikfmhncbmaaGreatDoorV4
import Derived.Test.YtgnoikfmhncbmaaGreatDoorV1
import Derived.Test.YtgnoikfmhncbmaaGreatDoorE2
set_option linter.unusedVariables false
set_option linter.unusedSimpArgs false
namespace Go.Proofs.YtgnoikfmhncbmaaGreatDoor
open Go.RowKit Go.Lib
theorem own_has {w : World} {b : Nat} {cs : List Value} (h : Has w b cs 28) (hl : cs.length = 20) : w.ownsRow 0 28 5 (.slice (some ⟨b, 0, none⟩) 4 4) 4 cs :=
  ⟨hl, .inr ⟨b, 4, cs.toArray, rfl, Nat.zero_le _, h, Nat.le_refl _, by decide, by simpa using hl, by simp [← hl]⟩⟩
theorem infoV5 : (Tryz.prog.info? 28).map (fun i => (i.zero, i.size, i.bytes)) = some (some (.agg #[.int .u8 0, .bool false, .int .i64 0, .string ByteArray.empty, .bool false]), 5, 40) := by kernel_rfl
/-- Region 7: the values of the row, Eval. -/
def EvC (w0 : World) (L : List RV) (z : Bool) : List Value → World → Prop
  | [], w => Below w0.heap.size w0 w
  | [r], w => ∃ b, r = .slice (some ⟨b, 0, none⟩) 4 4 ∧ Has w b (vCells L) 28 ∧ w0.heap.size ≤ b ∧ Below w0.heap.size w0 w
  | [r, x], w => (∃ b, r = .slice (some ⟨b, 0, none⟩) 4 4) ∧ x = .tuple #[.bool z, .int .i64 0] ∧ Below w0.heap.size w0 w
  | _, _ => False
theorem EvC.below {w0 : World} {L : List RV} {z : Bool} : ∀ {vs : List Value} {w : World}, EvC w0 L z vs w → Below w0.heap.size w0 w
  | [], _, h => h
  | [_], _, h => by obtain ⟨_, _, _, _, h⟩ := h; exact h
  | [_, _], _, h => h.2.2
  | _ :: _ :: _ :: _, _, h => h.elim
theorem EvC.ex {w0 : World} {L : List RV} {z : Bool} : ∀ (vs : List Value) (w : World), vs.length < 2 → EvC w0 L z vs w → ∃ v w', EvC w0 L z (vs ++ [v]) w'
  | [], w, _, h => ⟨_, w.alloc (.cells (vCells L).toArray 28), w.heap.size, rfl, Has.new w _ _, h.size, h.alloc h.size _⟩
  | [_], w, _, h => by obtain ⟨b, h1, _, _, h4⟩ := h; exact ⟨_, w, ⟨b, h1⟩, rfl, h4⟩
  | [_, _], _, hl, _ => by simp at hl
  | _ :: _ :: _ :: _, _, hl, _ => by simp at hl; omega
/-- Region 10: the values of the row, the id, a slice of it, the two together. -/
def ApC (w0 : World) (L : List RV) (id : Int) : List Value → World → Prop
  | [], w => Below w0.heap.size w0 w
  | [r], w => ∃ b, r = .slice (some ⟨b, 0, none⟩) 4 4 ∧ w.ownsRow 0 28 5 r 4 (vCells L) ∧ w0.heap.size ≤ b ∧ Below w0.heap.size w0 w
  | [r, x], w => ∃ b, r = .slice (some ⟨b, 0, none⟩) 4 4 ∧ w.ownsRow 0 28 5 r 4 (vCells L) ∧ w0.heap.size ≤ b ∧ Below w0.heap.size w0 w ∧ x = .agg #[.int .u8 1, .bool false, .int .i64 id, .string ⟨#[]⟩, .bool false]
  | [r, x, s], w => ∃ b, r = .slice (some ⟨b, 0, none⟩) 4 4 ∧ w.ownsRow 0 28 5 r 4 (vCells L) ∧ w0.heap.size ≤ b ∧ Below w0.heap.size w0 w ∧ x = .agg #[.int .u8 1, .bool false, .int .i64 id, .string ⟨#[]⟩, .bool false] ∧ ∃ g, s = .slice (some ⟨g, 0, none⟩) 1 1 ∧ Has w g (vInt id).cells 28
  | [r, x, s, y], w => (∃ b, r = .slice (some ⟨b, 0, none⟩) 4 4) ∧ x = .agg #[.int .u8 1, .bool false, .int .i64 id, .string ⟨#[]⟩, .bool false] ∧ (∃ g, s = .slice (some ⟨g, 0, none⟩) 1 1) ∧ ∃ sa cap, y = .slice sa 5 cap ∧ Rd w (.slice sa 5 cap) 5 (vCells (L ++ [vInt id])) ∧ Below w0.heap.size w0 w
  | _, _ => False
theorem ApC.below {w0 : World} {L : List RV} {id : Int} : ∀ {vs : List Value} {w : World}, ApC w0 L id vs w → Below w0.heap.size w0 w
  | [], _, h => h
  | [_], _, h => by obtain ⟨_, _, _, _, h⟩ := h; exact h
  | [_, _], _, h => by obtain ⟨_, _, _, _, h, _⟩ := h; exact h
  | [_, _, _], _, h => by obtain ⟨_, _, _, _, h, _⟩ := h; exact h
  | [_, _, _, _], _, h => by obtain ⟨_, _, _, _, _, _, _, h⟩ := h; exact h
  | _ :: _ :: _ :: _ :: _ :: _, _, h => h.elim
theorem ApC.app {w0 w : World} {L : List RV} {id : Int} (ty : TypeId) {r x s : Value} (hl : L.length = 4) (h : ApC w0 L id [r, x, s] w) :
    ∃ y w', (Builtin.append_ #[65, 65] ty #[r, s]).run Tryz.prog w = .ok y w' ∧ ApC w0 L id [r, x, s, y] w' := by
  obtain ⟨b, rfl, own, hb, hB, hx, g, rfl, hg⟩ := h
  obtain ⟨sa, cap, w', hr, h2, h3, _⟩ := app_run (P := Tryz.prog) w 65 ty 28 _ 5 40 Tryz.underlying65 infoV5 rfl (by decide) (by decide) (some ⟨b, 0, none⟩) 4 4 (vCells L) own ⟨g, 0, none⟩ 1 1 (vInt id).cells rfl (fun j u hj => news_at hg j u hj) (by simp [vInt, RV.cells, Value.oneCell']) (by decide)
  refine ⟨_, w', hr, ⟨b, rfl⟩, hx, ⟨g, rfl⟩, sa, cap, rfl, ?_, hB.trans (h3.below hB.size (fun k _ e => by
    have : b = k := by simpa [Value.ownBlock] using e
    omega))⟩
  have e : vCells (L ++ [vInt id]) = vCells L ++ (vInt id).cells := vc_snoc L _
  rw [e]
  exact Rd.of_own h2
theorem ApC.ex {w0 : World} {L : List RV} {id : Int} (hl : L.length = 4) : ∀ (vs : List Value) (w : World), vs.length < 4 → ApC w0 L id vs w → ∃ v w', ApC w0 L id (vs ++ [v]) w'
  | [], w, _, h => ⟨_, w.alloc (.cells (vCells L).toArray 28), w.heap.size, rfl, own_has (Has.new w _ _) (by rw [vc_len, hl]), h.size, h.alloc h.size _⟩
  | [_], w, _, h => by obtain ⟨b, h1, h2, h3, h4⟩ := h; exact ⟨_, w, b, h1, h2, h3, h4, rfl⟩
  | [_, _], w, _, h => by
    obtain ⟨b, h1, h2, h3, h4, h5⟩ := h
    exact ⟨_, w.alloc (.cells (vInt id).cells.toArray 28), b, h1, h2.alloc _, h3, h4.alloc h4.size _, h5, w.heap.size, rfl, Has.new w _ _⟩
  | [_, _, _], w, _, h => by obtain ⟨y, w', _, h2⟩ := ApC.app 0 hl h; exact ⟨y, w', h2⟩
  | [_, _, _, _], _, hl, _ => by simp at hl
  | _ :: _ :: _ :: _ :: _ :: _, _, hl, _ => by simp at hl; omega
theorem callUpon_app {w w' : World} {V : Value → World → Prop} {o : Oper} {a : Act} (s x : Operand) (t : TypeId) (ho : o.op = .call { callee := .builtin .append, args := #[s, x], argTypes := #[t, t] }) {y : Value}
    (hr : (Builtin.append_ #[t, t] o.type #[a.eval s, a.eval x]).run Tryz.prog w = .ok y w') (hc : V y w') : callUpon Tryz.prog w V ((execOp a.eval o).run Tryz.prog w) := by
  unfold execOp
  simp only [ho, resolve, invoke, builtin, Sem.run_bind, Sem.run_pure, Result.andThen_ok, List.map_toArray, List.map_cons, List.map_nil, hr]
  exact hc
end Go.Proofs.YtgnoikfmhncbmaaGreatDoor
