/- SchedStores: the walk, of any arguments. -/
import Derived.Test.YtdminbjenbbpaaaU6
namespace Go.Proofs.Ytdminbjenbbpaaa
open Go.RowKit
theorem u64_nats {ys : List Int} (h : ∀ y ∈ ys, (Lit.int .u64 y).wf = true) : ∃ la : List Nat, la.length = ys.length ∧ ys.map (.int .u64) = u64s la ∧ ∀ x ∈ la, x < 18446744073709551616 := by
  refine ⟨ys.map Int.toNat, by simp, ?_, ?_⟩
  · unfold u64s
    rw [List.map_map]
    apply List.map_congr_left
    intro y hy
    have := bounds_u64 (h y hy)
    show Value.int .u64 y = Value.int .u64 ((y.toNat : Nat) : Int)
    rw [Int.toNat_of_nonneg (by omega)]
  · intro x hx
    obtain ⟨y, hy, rfl⟩ := List.mem_map.1 hx
    have := bounds_u64 (h y hy)
    omega
theorem stores_walk (a0 : Option Addr) (len0 cap0 : Nat) (z0 : List Int) (a1 : Option Addr) (len1 cap1 : Nat) (z1 : List Int) (a2 : Option Addr) (len2 cap2 : Nat) (z2 : List Int) (w : World) (w0 : IsRow .u64 w a0 len0 cap0 z0) (w1 : IsRow .u64 w a1 len1 cap1 z1) (w2 : IsRow .i64 w a2 len2 cap2 z2) :
    Calls Try.prog 8 #[.slice a0 len0 cap0, .slice a1 len1 cap1, .slice a2 len2 cap2] w fun e w' => e = .returned (.bool true) ∧ Below w.heap.size w w' := by
  by_cases h : 30 < len0 ∨ 30 < len1 ∨ 100 < len2
  · exact stores_long a0 len0 cap0 a1 len1 cap1 a2 len2 cap2 w h
  · obtain ⟨y0, rfl, _, r0, b0, l0⟩ := w0.rd
    obtain ⟨y1, rfl, _, r1, b1, l1⟩ := w1.rd
    obtain ⟨y2, rfl, _, r2, b2, l2⟩ := w2.rd
    obtain ⟨la, e0, f0, g0⟩ := u64_nats b0
    obtain ⟨lb, e1, f1, g1⟩ := u64_nats b1
    rw [f0, ← e0] at r0
    rw [f1, ← e1] at r1
    rw [← e0, ← e1] at h ⊢
    exact stores_short a0 cap0 la a1 cap1 lb a2 cap2 y2 w r0 r1 r2 g0 g1 (fun p hp => bounds_i64 (b2 p hp)) (by omega) (by omega) (by omega)
end Go.Proofs.Ytdminbjenbbpaaa
