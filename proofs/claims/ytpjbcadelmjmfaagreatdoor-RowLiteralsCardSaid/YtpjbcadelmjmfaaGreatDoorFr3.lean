/- The frame of a card: opening a string argument. -/
import Derived.Test.YtpjbcadelmjmfaaGreatDoorFr
namespace Go.Proofs.YtpjbcadelmjmfaaGreatDoor
open Go.RowKit Go.Lib Go.ChangeShapes Go.WideShapes Go.ChangeAt Go.Deep
set_option linter.unusedVariables false
section
variable {H : Type} {enc : TypeId × Value → H} {w : World} {base : Nat} {spare : Nat → Bool} {held : Bool}
set_option maxRecDepth 100000 in
theorem open_str {r : Reach} {b0 : Nat} {v : Value} {d : DataW H} {p : List MemPlace} (hv : Value.okWide Tryz.prog w r b0 9 v) (h : DataW.Trod enc Tryz.prog w base spare held 9 v d p) :
    ∃ s : ByteArray, v = .string s ∧ s.size ≤ 9223372036854775807 := by
  obtain ⟨s, rfl⟩ := okWide_string Tryz.underlying9 hv
  obtain ⟨fuel, hf⟩ := h
  have hf2 : DataW.trod enc Tryz.prog w base spare held fuel 9 [.string s] = some (d, p) := hf
  obtain ⟨s3, e3, _, w3⟩ := DataW.trod_string Tryz.underlying9 hf2
  simp only [List.cons.injEq, and_true] at e3
  injection e3 with e3
  subst e3
  exact ⟨s, rfl, by unfold maxLen at w3; exact w3⟩
end
end Go.Proofs.YtpjbcadelmjmfaaGreatDoor
