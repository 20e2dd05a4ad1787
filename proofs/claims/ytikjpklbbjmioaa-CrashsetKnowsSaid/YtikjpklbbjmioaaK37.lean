/- CrashsetKnows: how its third argument is opened. -/
import Derived.Test.YtikjpklbbjmioaaK36
import Derived.Test.YtikjpklbbjmioaaA1
namespace Go.Proofs.Ytikjpklbbjmioaa
open Go.RowKit
theorem cellsSpoilt : Try.prog.cellsOf 78 = 4 := by kernel_rfl
theorem cellsBool : Try.prog.cellsOf 4 = 1 := by kernel_rfl
theorem arr4 {α : Type} {cs : Array α} (h : cs.size = 4) : ∃ c0 c1 c2 c3, cs = #[c0, c1, c2, c3] := by
  obtain ⟨l⟩ := cs
  match l, h with
  | [c0, c1, c2, c3], _ => exact ⟨c0, c1, c2, c3, rfl⟩
section
variable {H : Type} {enc : TypeId × Value → H} {w : World} {base : Nat} {spare : Nat → Bool} {held : Bool}
theorem field_bool {n : Nat} {cs : List Value} {f : Field} {v : Value} {y : DataW H × List MemPlace} (ht : f.type = 4) (hv : (cs.drop f.offset).take 1 = [v])
    (hh : DataW.trod enc Try.prog w base spare held n f.type ((cs.drop f.offset).take (Try.prog.cellsOf f.type)) = some y) : ∃ b : Bool, v = .bool b := by
  rw [ht, cellsBool, hv] at hh
  obtain ⟨b, hk, _⟩ := DataW.trod_bool Try.underlying4 hh
  simp only [List.cons.injEq, and_true] at hk
  exact ⟨b, hk⟩
set_option maxRecDepth 100000 in
theorem open_spoilt {fuel : Nat} {cs : List Value} {x : DataW H × List MemPlace} (h : DataW.trod enc Try.prog w base spare held fuel 78 cs = some x) : ∃ (b : Bool) (o v : Nat) (m : Int), o < 18446744073709551616 ∧ v < 18446744073709551616 ∧ i64B m ∧ cs = [Value.bool b, .int .u64 (o : Int), .int .u64 (v : Int), .int .i64 m] := by
  obtain ⟨xs, n, rfl, _, hcl, hxl, hf⟩ := DataW.trod_struct Try.underlying78 h
  rw [cellsSpoilt] at hcl
  match cs, hcl with
  | [c0, c1, c2, c3], _ =>
    have hx4 : xs.length = 4 := hxl
    match xs, hx4 with
    | [y0, y1, y2, y3], _ =>
      obtain ⟨b, rfl⟩ := field_bool (v := c0) rfl rfl (hf 0 _ rfl)
      obtain ⟨o, rfl, ho⟩ := field_u64 (v := c1) rfl rfl (hf 1 _ rfl)
      obtain ⟨v, rfl, hv⟩ := field_u64 (v := c2) rfl rfl (hf 2 _ rfl)
      obtain ⟨m, rfl, hm⟩ := field_int (v := c3) rfl rfl (hf 3 _ rfl)
      exact ⟨b, o, v, m, ho, hv, hm, rfl⟩
end
end Go.Proofs.Ytikjpklbbjmioaa
