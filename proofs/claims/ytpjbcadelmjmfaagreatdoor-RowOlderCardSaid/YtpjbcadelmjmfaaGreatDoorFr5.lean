/- How long a slice argument can be. -/
import Derived.Test.YtpjbcadelmjmfaaGreatDoorFr2
namespace Go.Proofs.YtpjbcadelmjmfaaGreatDoor
open Go.RowKit Go.Lib Go.ChangeShapes Go.WideShapes Go.ChangeAt Go.Deep
section
variable {H : Type} {enc : TypeId × Value → H} {w : World} {base : Nat} {spare : Nat → Bool} {held : Bool}
theorem bytesLC : Tryz.prog.bytesOf 93 ≠ 0 := by
  have h : (Tryz.prog.bytesOf 93 == 0) = false := by kernel_rfl
  simpa using h
theorem len_bound {a0 : Option Addr} {len0 cap0 : Nat} {d : DataW H} {p : List MemPlace} (h : DataW.Trod enc Tryz.prog w base spare held 22 (.slice a0 len0 cap0) d p)
    (hs : ∀ elems sp, d = .slice elems sp → (elems.length + sp.length) * Tryz.prog.bytesOf 93 ≤ reachBytes) : len0 ≤ reachBytes := by
  obtain ⟨fuel, hf⟩ := h
  have hf2 : DataW.trod enc Tryz.prog w base spare held fuel 22 [.slice a0 len0 cap0] = some (d, p) := hf
  rcases open_slice Tryz.underlying22 hf2 with ⟨hcs, _⟩ | ⟨a, len, cap, m, n, D, Pl, hcs, _, _, _, _, hx, _⟩
  · simp only [List.cons.injEq, Value.slice.injEq, and_true] at hcs
    omega
  · simp only [List.cons.injEq, Value.slice.injEq, and_true] at hcs
    obtain ⟨_, rfl, _⟩ := hcs
    simp only [Prod.mk.injEq] at hx
    have h1 := hs _ _ hx.1
    rw [List.length_map, List.length_range] at h1
    have h2 := bytesLC
    have h3 : len0 * 1 ≤ (len0 + ((List.range (m - len0)).map fun j => D (len0 + j)).length) * Tryz.prog.bytesOf 93 := Nat.mul_le_mul (by omega) (by omega)
    omega
theorem reach_sum {a b : Nat} (h1 : a ≤ reachBytes) (h2 : b ≤ reachBytes) : a + b ≤ 9223372036854775807 := by
  have h3 := reachBytes_lt
  omega
end
end Go.Proofs.YtpjbcadelmjmfaaGreatDoor
