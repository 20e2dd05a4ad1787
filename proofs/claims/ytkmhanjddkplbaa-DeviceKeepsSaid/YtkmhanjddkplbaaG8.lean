/- The law's word. -/
import Derived.Test.YtkmhanjddkplbaaH1
namespace Go.Proofs.Ytkmhanjddkplbaa
open Go.RowKit Go.Maps
variable {w : World}

theorem mod_next (x i : Nat) (hi : i < 8) : x % 256 ^ (i + 1) = x % 256 ^ i + x / 2 ^ (i * 8) % 256 * 2 ^ (i * 8) := by
  have := partW_succ x i hi
  unfold partW at this
  rw [Nat.min_eq_right (by omega), Nat.min_eq_right (by omega)] at this
  exact this
set_option maxHeartbeats 4000000 in
set_option maxRecDepth 100000 in
theorem lword_any {a : Option Addr} {c : Nat} {ws : List Nat} (hr : Rd w (.slice a (bytesL ws).length c) (bytesL ws).length (u8s (bytesL ws))) (hm : ws.length ≤ 1000000) (hw : ∀ x ∈ ws, x < 18446744073709551616) (off : Nat) (h8 : off % 8 = 0) (hlt : off / 8 < ws.length) :
    Calls Try.prog 33 #[.slice a (bytesL ws).length c, .int .u64 (off : Int)] w fun e w' => e = .returned (.int .u64 ((ws.getD (off / 8) 0 : Nat) : Int)) ∧ w = w' := by
  have hbl := bytesL_len ws
  have hbyte : ∀ i, i < 8 → (bytesL ws)[off + i]? = some (ws.getD (off / 8) 0 / 2 ^ (i * 8) % 256) := fun i hi => by
    rw [bytesL_get ws (off + i) (by omega), show (off + i) / 8 = off / 8 by omega, show (off + i) % 8 = i by omega]
  have hx := hw _ (mem_getD 0 hlt)
  have hfin : ws.getD (off / 8) 0 % 256 ^ 8 = ws.getD (off / 8) 0 := Nat.mod_eq_of_lt hx
  obtain ⟨bl, ol, cl, ea, fa⟩ := hr.cells (by omega)
  simp only [Value.slice.injEq, true_and] at ea
  obtain ⟨rfl, e1⟩ := ea
  have hcell : ∀ i, i < 8 → w.cell? ⟨bl, ol + (off + i), none⟩ = some (.int .u8 ((ws.getD (off / 8) 0 / 2 ^ (i * 8) % 256 : Nat) : Int)) := fun i hi => fa _ _ (u8s_get _ _ _ (hbyte i hi))
  have hoff : off + 8 ≤ (bytesL ws).length := by omega
  have hlen : (bytesL ws).length ≤ 8000000 := by omega
  generalize ws.getD (off / 8) 0 = x at *
  generalize (bytesL ws).length = m at *
  replace hcell := Lib.hid hcell
  replace hfin := Lib.hid hfin
  replace hbl := Lib.hid hbl
  replace h8 := Lib.hid h8
  replace hlt := Lib.hid hlt
  replace e1 := Lib.hid e1
  clear hr fa hbyte hw
  go_enter Try.func33, Try.ntmps33
  go_wp2_with fail
  go_loop [5, 6] (fun v i => ∃ k : Nat, k ≤ 8 ∧ i = .int .u64 k ∧ v = .int .u64 ((x % 256 ^ k : Nat) : Int)) (fun _ i => 8 - (intOf i).toNat)
  case atStart => exact ⟨0, by omega, rfl, by simp [Nat.mod_one]⟩
  case round =>
    obtain ⟨k, hk, rfl, rfl⟩ := hrel
    by_cases hk8 : k < 8
    · have hkI : decide ((k : Int) < 8) = true := decide_eq_true (by omega)
      have hc := hcell.out k hk8
      have hy : x % 256 ^ k < 256 ^ k := Nat.mod_lt _ (Nat.pow_pos (by omega))
      have hb256 : x / 2 ^ (k * 8) % 256 < 256 := Nat.mod_lt _ (by omega)
      have hor := or_wrap (x % 256 ^ k) (x / 2 ^ (k * 8) % 256) k hy hb256 hk8
      have hnx := mod_next x k hk8
      generalize x / 2 ^ (k * 8) % 256 = b at *
      generalize x % 256 ^ k = y at *
      have ho1 : (off : Int) + (k : Int) < (m : Int) := by omega
      have ho2 : 0 ≤ (off : Int) + (k : Int) := by omega
      replace hor := Lib.hid hor
      replace hnx := Lib.hid hnx
      replace hy := Lib.hid hy
      replace hk := Lib.hid hk
      go_wp2_with fail
      have := hk.out
      exact ⟨⟨k + 1, by omega, by go_num, by rw [Nat.mul_comm 8 k, hor.out, hnx.out]⟩, by simp [intOf]; omega⟩
    · obtain rfl : k = 8 := by omega
      have hkI : decide (((8 : Nat) : Int) < 8) = false := rfl
      rw [hfin.out]
      go_wp2_with fail
      go_ret
      exact ⟨rfl, rfl⟩
end Go.Proofs.Ytkmhanjddkplbaa
