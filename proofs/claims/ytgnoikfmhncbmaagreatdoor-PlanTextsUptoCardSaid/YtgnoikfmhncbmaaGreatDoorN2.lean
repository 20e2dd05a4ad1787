/- Walks: strconv.FormatUint at base 10. -/
import Derived.Test.YtgnoikfmhncbmaaGreatDoorN4
import Derived.Lib.ItoaMem
set_option linter.unusedVariables false
set_option linter.unusedSimpArgs false
namespace Go.Proofs.YtgnoikfmhncbmaaGreatDoor
open Go.RowKit Go.Lib Go.Sort
set_option maxHeartbeats 6400000 in
set_option maxRecDepth 100000 in
theorem fmtuint_in (u : Nat) (hu64 : u < 18446744073709551616) (w : World) (hE : Env w) :
    Calls Tryz.prog 59 #[.int .u64 (u : Int), .int .i64 10] w (RPost w (.string (ba (decDigits u)))) := by
  by_cases hs : u < 100
  · have hc := fun wx => Tryz.internal_strconv_small u hs wx
    have hsI : (u : Int) < 100 := by omega
    go_enter Tryz.func59, Tryz.ntmps59
    go_wp2_with fail
    refine (hc _).mono ?_
    rintro e w' ⟨rfl, rfl⟩
    go_wp2_with fail
    go_ret
    exact ⟨rfl, Below.refl _ _⟩
  · have hu1 : 1 ≤ u := by omega
    have hsI : ¬ (u : Int) < 100 := by omega
    have hnd20 : nDigits u ≤ 20 := by have := numDigits_eq u hu1 hu64; split at this <;> omega
    have hal : Tryz.prog.arrayLen 157 = 24 := by kernel_rfl
    have hsl1 : ∀ W, (Instr.sliceAt 157 (.pointer (some ⟨w.heap.size, 0, none⟩)) none (some (.int .i64 (nDigits u : Int))) none).run Tryz.prog W = .ok (.slice (some ⟨w.heap.size, 0, none⟩) (nDigits u) 24) W := fun W => by
      rw [run_sliceAt_array_h W 157 ⟨w.heap.size, 0, none⟩ (by kernel_rfl) .i64 (nDigits u : Int) (by omega) (by rw [hal]; omega)]
      go_simp
    have hH0 := holds_zero0 w 157 (nDigits u) (by omega)
    have hfmt := Tryz.internal_strconv_formatBase10 w.heap.size 0 24 u (Array.replicate (nDigits u) 0) (w.alloc (.cells zeros24 157)) hH0 (by rw [Array.size_replicate]; exact lt_pow_nDigits u) hu64 (by rw [Array.size_replicate]; omega)
    rw [Array.size_replicate] at hfmt
    have hnum := fun wx h => Any.internal_strconv_numDigits (P := Tryz.prog) (ρ := Tryz.laysM171_ren) { Tryz.laysM171 with } u hu1 hu64 wx h
    have hnum2 := hnum _ (tabIs_alloc hE.pw (.cells zeros24 157))
    replace hnum2 := Lib.hid hnum2
    replace hfmt := Lib.hid hfmt
    have HH0 := Lib.hid hH0
    clear hH0 hal hE hnum
    go_enter Tryz.func59, Tryz.ntmps59
    go_wp2_with fail
    refine hnum2.out.mono ?_
    rintro e w' ⟨rfl, rfl⟩
    go_wp2_with fail
    refine hfmt.out.mono ?_
    rintro e w' ⟨rfl, k, v', dk, rfl, hF⟩
    have hcv : (convert 74 9 (.slice (some ⟨w.heap.size, 0, none⟩) (nDigits u) 24)).run Tryz.prog ((putRow (fun (b : UInt8) => Value.int .u8 (b.toNat : Int)) (w.alloc (.cells zeros24 157)) w.heap.size 0 dk).drewN k) = .ok (.string ⟨(decDigits u).toArray⟩) ((putRow (fun (b : UInt8) => Value.int .u8 (b.toNat : Int)) (w.alloc (.cells zeros24 157)) w.heap.size 0 dk).drewN k) := by
      have h := run_convert_bytes_back (P := Tryz.prog) ((putRow (fun (b : UInt8) => Value.int .u8 (b.toNat : Int)) (w.alloc (.cells zeros24 157)) w.heap.size 0 dk).drewN k) 74 9 5 ⟨w.heap.size, 0, none⟩ 24 (decDigits u) Tryz.underlying74 Tryz.underlying5 Tryz.underlying9 (fun j hj => by
        rw [row_is_numeral hF j hj, add_plain, World.cell?_drewN]
        exact cell?_putRow (fun (b : UInt8) => Value.int .u8 (b.toNat : Int)) _ w.heap.size 0 _ dk HH0.out (by rw [hF.size, Array.size_replicate]) j (by rw [hF.size]; rw [decDigits_length] at hj; exact hj))
      rw [decDigits_length] at h
      exact h
    obtain ⟨os, eo⟩ := fin_at w (.cells zeros24 157) dk k 0
    have hbF : Below w.heap.size w ((putRow (fun (b : UInt8) => Value.int .u8 (b.toNat : Int)) (w.alloc (.cells zeros24 157)) w.heap.size 0 dk).drewN k) := by rw [eo]; exact below_grow _ w (Nat.le_refl _) k os
    replace hbF := Lib.hid hbF
    clear eo hF
    go_wp2_with fail
    go_ret
    exact ⟨rfl, hbF.out⟩
theorem fmtuint_any (u : Nat) (hu64 : u < 18446744073709551616) (w : World) (hE : Env w) :
    Calls Tryz.prog 34 #[.int .u64 (u : Int), .int .i64 10] w (RPost w (.string (ba (decDigits u)))) := by
  have hc := fmtuint_in u hu64 w hE
  go_enter Tryz.func34, Tryz.ntmps34
  go_wp2_with fail
  refine hc.mono ?_
  rintro e w1 ⟨rfl, hb⟩
  replace hb := Lib.hid hb
  go_wp2_with fail
  go_ret
  exact ⟨rfl, hb.out⟩
end Go.Proofs.YtgnoikfmhncbmaaGreatDoor
