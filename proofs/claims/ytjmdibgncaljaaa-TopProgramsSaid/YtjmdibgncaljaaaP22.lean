/- Programs: the classes of worlds of the region that makes an image and lays it into a box. -/
import Derived.Test.YtjmdibgncaljaaaT2
namespace Go.Proofs.Ytjmdibgncaljaaa
open Go.RowKit
structure PutC (A : World) (r : Value) (s1 : ByteArray) (H : Nat → Option Value) (w : World) : Prop where
  c0 : ∀ v, H 0 = some v → v = r
  c1 : ∀ v, H 1 = some v → ∃ b, v = .pointer (some ⟨b, 0, none⟩) ∧ A.heap.size ≤ b ∧ Has w b [if (H 2).isSome = true then Value.string s1 else Value.string ⟨#[]⟩] 53
  c2 : ∀ v, H 2 = some v → v = undef
  c3 : (H 2).isSome = true → (H 1).isSome = true
  b : Below A.heap.size A w
theorem PutC.call {A w w' : World} {r : Value} {s1 : ByteArray} {H : Nat → Option Value} (h : PutC A r s1 H w) (hb : Below w.heap.size w w') : PutC A r s1 (setP H 0 r) w' :=
  ⟨fun v hv => by cases hv; rfl, fun v hv => by
    obtain ⟨b, h1, h2, h3⟩ := h.c1 v hv
    exact ⟨b, h1, h2, h3.only (Only.of_below hb) (Nat.not_le.2 h3.lt)⟩, fun v hv => h.c2 v hv, h.c3, Dev.Fr.step h.b hb⟩
theorem PutC.new {A w : World} {r : Value} {s1 : ByteArray} {H : Nat → Option Value} (h : PutC A r s1 H w) (h2 : H 1 = none) : PutC A r s1 (setP H 1 (.pointer (some ⟨w.heap.size, 0, none⟩))) (w.alloc (.cells #[Value.string ⟨#[]⟩] 53)) := by
  have h3 : H 2 = none := by
    cases hh : H 2 with
    | none => rfl
    | some v => have := h.c3 (by rw [hh]; rfl); rw [h2] at this; cases this
  refine ⟨fun v hv => h.c0 v hv, fun v hv => ?_, fun v hv => h.c2 v hv, fun _ => rfl, h.b.alloc h.b.size _⟩
  cases hv
  refine ⟨w.heap.size, rfl, h.b.size, ?_⟩
  have e : (setP H 1 (.pointer (some ⟨w.heap.size, 0, none⟩)) 2).isSome = false := by show (H 2).isSome = false; rw [h3]; rfl
  rw [if_neg (by rw [e]; decide)]
  exact Has.new w [Value.string ⟨#[]⟩] 53
theorem PutC.lay {A w : World} {r : Value} {s1 : ByteArray} {H : Nat → Option Value} {b : Nat} (h : PutC A r s1 H w) (h2 : H 1 = some (.pointer (some ⟨b, 0, none⟩))) : PutC A r s1 (setP H 2 undef) (w.setCell ⟨b, 0, none⟩ (.string s1)) := by
  obtain ⟨b', g1, g2, g3⟩ := h.c1 _ h2
  cases g1
  refine ⟨fun v hv => h.c0 v hv, fun v hv => ?_, fun v hv => by cases hv; rfl, fun _ => by show (H 1).isSome = true; rw [h2]; rfl, h.b.setCell (p := ⟨b, 0, none⟩) g2 _⟩
  have hv' : H 1 = some v := hv
  rw [h2] at hv'
  cases hv'
  exact ⟨b, rfl, g2, by
    have e : (setP H 2 undef 2).isSome = true := rfl
    rw [if_pos e]
    exact g3.set 0 (.string s1)⟩
theorem PutC.ex {A : World} {r : Value} {s1 : ByteArray} (H : Nat → Option Value) (w : World) (h : PutC A r s1 H w) (hn : ∃ s, s < 3 ∧ H s = none) : ∃ s v w', s < 3 ∧ H s = none ∧ PutC A r s1 (setP H s v) w' := by
  cases h0 : H 0 with
  | none => exact ⟨0, r, w, by omega, h0, h.call (Below.refl _ _)⟩
  | some x0 =>
    cases h1 : H 1 with
    | none => exact ⟨1, _, _, by omega, h1, h.new h1⟩
    | some x1 =>
      obtain ⟨b, rfl, _⟩ := h.c1 x1 h1
      cases h2 : H 2 with
      | none => exact ⟨2, _, _, by omega, h2, h.lay h1⟩
      | some x2 =>
        obtain ⟨s, hs, he⟩ := hn
        exfalso
        match s, hs with
        | 0, _ => rw [h0] at he; cases he
        | 1, _ => rw [h1] at he; cases he
        | 2, _ => rw [h2] at he; cases he
theorem PutC.start (A : World) (r : Value) (s1 : ByteArray) : PutC A r s1 (fun _ => none) A.drew :=
  ⟨fun v hv => (by cases hv), fun v hv => (by cases hv), fun v hv => (by cases hv), fun h => (by cases h), Dev.Fr.drew (Below.refl _ _)⟩
theorem PutC.at {A : World} {r : Value} {s1 : ByteArray} {Hf : Nat → Value} {nds : List Nat} {w : World} : clsP (PutC A r s1) Hf nds w → Below A.heap.size A w := fun ⟨_, _, _, h⟩ => h.b
theorem PutC.done {A : World} {r : Value} {s1 : ByteArray} {Hf : Nat → Value} {w : World} (h : PutC A r s1 (fullP 3 Hf) w) : Hf 0 = r ∧ Hf 2 = undef ∧ ∃ b, Hf 1 = .pointer (some ⟨b, 0, none⟩) ∧ A.heap.size ≤ b ∧ Has w b [Value.string s1] 53 ∧ Below A.heap.size A w := by
  obtain ⟨b, h1, h2, h3⟩ := h.c1 (Hf 1) rfl
  have e : (fullP 3 Hf 2).isSome = true := rfl
  rw [if_pos e] at h3
  exact ⟨h.c0 _ rfl, h.c2 _ rfl, b, h1, h2, h3, h.b⟩
end Go.Proofs.Ytjmdibgncaljaaa
