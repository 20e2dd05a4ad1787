/- Arguments that are slices of bytes or of uint16. -/
import Derived.Test.YtpjbcadelmjmfaaGreatDoorFr2
import Derived.Test.YtpjbcadelmjmfaaGreatDoorR11
namespace Go.Proofs.YtpjbcadelmjmfaaGreatDoor
open Go.RowKit Go.Lib Go.ChangeShapes Go.WideShapes Go.ChangeAt Go.Deep
theorem u16_lt {n : Int} (h : (Lit.int .u16 n).wf = true) : 0 ≤ n ∧ n < 65536 := by
  simp only [Lit.wf, Bool.and_eq_true, decide_eq_true_eq] at h
  have e1 : IntKind.min .u16 = 0 := by decide
  have e2 : IntKind.max .u16 = 65535 := by decide
  rw [e1, e2] at h
  omega
theorem cellsU16 : Tryz.prog.cellsOf 70 = 1 := by kernel_rfl
def hcells (l : List Nat) : List Value := l.map fun x : Nat => .int .u16 (x : Int)
section
variable {H : Type} {enc : TypeId × Value → H} {w : World} {base : Nat} {spare : Nat → Bool} {held : Bool}
theorem open_bytes {a0 : Option Addr} {len0 cap0 : Nat} {d : DataW H} {p : List MemPlace} (h : DataW.Trod enc Tryz.prog w base spare held 34 (.slice a0 len0 cap0) d p) :
    ∃ l : List Nat, l.length = len0 ∧ (∀ x ∈ l, x < 256) ∧ Rd w (.slice a0 len0 cap0) len0 (bcells l) ∧ len0 ≤ 9223372036854775807 ∧ len0 ≤ cap0 := by
  obtain ⟨fuel, hf⟩ := h
  have hf2 : DataW.trod enc Tryz.prog w base spare held fuel 34 [.slice a0 len0 cap0] = some (d, p) := hf
  obtain ⟨l, h1, h2, h3, h4⟩ := open_flat (fun x : Nat => [Value.int .u8 (x : Int)]) 1 (fun _ => rfl) (by omega) (fun x : Nat => x < 256) Tryz.underlying34 cellsU8 (fun fuel cs x hh => by
    obtain ⟨m0, e0, _, w0⟩ := DataW.trod_int Tryz.underlying5 hh
    subst e0
    obtain ⟨k1, k2⟩ := u8_lt w0
    obtain ⟨t, rfl⟩ := Int.eq_ofNat_of_zero_le k1
    exact ⟨t, by omega, rfl⟩) hf2
  refine ⟨l, h1, h2, ?_, h4, ?_⟩
  · have e : l.flatMap (fun x : Nat => [Value.int .u8 (x : Int)]) = bcells l := by unfold bcells; rw [List.map_eq_flatMap]
    rw [← e]; exact h3
  · rcases open_slice Tryz.underlying34 hf2 with ⟨hcs, _⟩ | ⟨a, len, cap, m, n, D, Pl, hcs, _, hl, _⟩
    · simp only [List.cons.injEq, Value.slice.injEq, and_true] at hcs
      omega
    · simp only [List.cons.injEq, Value.slice.injEq, and_true] at hcs
      omega
theorem open_u16s {a0 : Option Addr} {len0 cap0 : Nat} {d : DataW H} {p : List MemPlace} (h : DataW.Trod enc Tryz.prog w base spare held 69 (.slice a0 len0 cap0) d p) :
    ∃ l : List Nat, l.length = len0 ∧ (∀ x ∈ l, x < 65536) ∧ Rd w (.slice a0 len0 cap0) len0 (hcells l) ∧ len0 ≤ 9223372036854775807 ∧ len0 ≤ cap0 := by
  obtain ⟨fuel, hf⟩ := h
  have hf2 : DataW.trod enc Tryz.prog w base spare held fuel 69 [.slice a0 len0 cap0] = some (d, p) := hf
  obtain ⟨l, h1, h2, h3, h4⟩ := open_flat (fun x : Nat => [Value.int .u16 (x : Int)]) 1 (fun _ => rfl) (by omega) (fun x : Nat => x < 65536) Tryz.underlying69 cellsU16 (fun fuel cs x hh => by
    obtain ⟨m0, e0, _, w0⟩ := DataW.trod_int Tryz.underlying70 hh
    subst e0
    obtain ⟨k1, k2⟩ := u16_lt w0
    obtain ⟨t, rfl⟩ := Int.eq_ofNat_of_zero_le k1
    exact ⟨t, by omega, rfl⟩) hf2
  refine ⟨l, h1, h2, ?_, h4, ?_⟩
  · have e : l.flatMap (fun x : Nat => [Value.int .u16 (x : Int)]) = hcells l := by unfold hcells; rw [List.map_eq_flatMap]
    rw [← e]; exact h3
  · rcases open_slice Tryz.underlying69 hf2 with ⟨hcs, _⟩ | ⟨a, len, cap, m, n, D, Pl, hcs, _, hl, _⟩
    · simp only [List.cons.injEq, Value.slice.injEq, and_true] at hcs
      omega
    · simp only [List.cons.injEq, Value.slice.injEq, and_true] at hcs
      omega
end
end Go.Proofs.YtpjbcadelmjmfaaGreatDoor
