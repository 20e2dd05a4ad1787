/- The reference's Next: the next sequence, or nil. -/
import Derived.Test.YtdminbjenbbpaaaG18
namespace Go.Proofs.Ytdminbjenbbpaaa
open Go.RowKit
theorem refnext_empty (a : Option Addr) (cap : Nat) (w : World) :
    Calls Try.prog 31 #[.slice a 0 cap] w fun e w' => e = .returned (.slice none 0 0) ∧ w = w' := by
  go_enter Try.func31, Try.ntmps31
  go_wp2_with fail
  go_loopw [3] (fun iv wr => iv = .int .i64 (-2) ∧ wr = w) (fun iv _ => 0)
  case atStart => exact ⟨by first | rfl | decide, rfl⟩
  case round =>
    obtain ⟨rfl, rfl⟩ := hrel
    go_wp2_with fail
    go_ret
    exact ⟨rfl, rfl⟩
set_option maxHeartbeats 2000000 in
set_option maxRecDepth 100000 in
theorem refnext_none (l : List Nat) (b off c : Nat) (w : World) (hv : ∀ j, j < l.length → w.cell? ⟨b, off + j, none⟩ = some (.int .i64 ((l.getD j 0 : Nat) : Int))) (hl : l.length ≤ 4096) (hd : ∀ j, j + 1 < l.length → l.getD (j + 1) 0 ≤ l.getD j 0) :
    Calls Try.prog 31 #[.slice (some ⟨b, off, none⟩) l.length c] w fun e w' => e = .returned (.slice none 0 0) ∧ ∃ d, w' = w.drewN d := by
  replace hv := Lib.hid hv
  replace hd := Lib.hid hd
  replace hl := Lib.hid hl
  go_enter Try.func31, Try.ntmps31
  go_wp2_with fail
  go_loopw [3] (fun iv wr => ∃ (q : Int) (d : Nat), -2 ≤ q ∧ q + 2 ≤ l.length ∧ iv = .int .i64 q ∧ wr = w.drewN d) (fun iv _ => ((intOf iv) + 2).toNat)
  case atStart =>
    have := hl.out
    exact ⟨(l.length : Int) - 2, 0, by omega, by omega, by rw [show wrap64 ((l.length : Int) - 2) = (l.length : Int) - 2 by unfold wrap64; omega], rfl⟩
  case round =>
    obtain ⟨q, d, h1, h2, rfl, rfl⟩ := hrel
    by_cases h0 : 0 ≤ q
    · obtain ⟨k, rfl⟩ : ∃ k : Nat, q = (k : Int) := ⟨q.toNat, by omega⟩
      have ck := hv.out k (by omega)
      have ck1 := hv.out (k + 1) (by omega)
      have hge := hd.out k (by omega)
      have hge1 : decide ((l.getD (k + 1) 0 : Int) ≤ (l.getD k 0 : Int)) = true := decide_eq_true (by omega)
      have hge2 : decide (l.getD (k + 1) 0 ≤ l.getD k 0) = true := decide_eq_true hge
      have hwm : IntKind.i64.wrap ((k : Int) + 1) = ((k + 1 : Nat) : Int) := by have := hl.out; have h := IntWalk.i64_in ((k : Int) + 1) (by omega); rw [h]; rfl
      have hwk : wrap64 ((k : Int) + 1) = ((k + 1 : Nat) : Int) := by have := hl.out; unfold wrap64; omega
      have hi0 : (0 : Int) ≤ (k : Int) := by omega
      have hi1 : (k : Int) < (l.length : Int) := by omega
      have hi2 : ((k + 1 : Nat) : Int) < (l.length : Int) := by omega
      have hi3 : (0 : Int) ≤ ((k + 1 : Nat) : Int) := by omega
      have hdk : decide ((0 : Int) ≤ (k : Int)) = true := decide_eq_true hi0
      generalize l.getD k 0 = x at *
      generalize l.getD (k + 1) 0 = y at *
      have hl4 := hl.out
      go_wp2_with fail
      go_quiet (fail)
      go_wp2_with fail
      exact ⟨⟨(k : Int) - 1, _, by omega, by omega, rfl, rfl⟩, by simp [intOf]; omega⟩
    · have hdk : decide ((0 : Int) ≤ q) = false := decide_eq_false h0
      go_wp2_with fail
      go_ret
      exact ⟨rfl, _, rfl⟩
end Go.Proofs.Ytdminbjenbbpaaa
