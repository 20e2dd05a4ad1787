/- crashset: the content of a line among bytes. -/
import Derived.Test.YtjmdibgncaljaaaK26
import Derived.IntWalk
namespace Go.Proofs.Ytjmdibgncaljaaa.Dev
open Go.RowKit Go.Maps
variable {w : World} {R : Dv} {T : Nat}
theorem lineW_get {ws : List Nat} {n : Nat} (i : Nat) (hi : i < 8) : (lineW ws n).getD i 0 = ws.getD (8 * n + i) 0 := by
  unfold lineW
  rw [List.getD, List.getD, List.getElem?_take, if_pos hi, List.getElem?_drop]
theorem lineW_lt {ws : List Nat} (h : ∀ x ∈ ws, x < 18446744073709551616) (n : Nat) : ∀ x ∈ lineW ws n, x < 18446744073709551616 := by
  intro x hx
  unfold lineW at hx
  exact h x (List.mem_of_mem_drop (List.mem_of_mem_take hx))
theorem line_byte {ws : List Nat} {n : Nat} (k : Nat) (hk : k < 64) (hn : 8 * n + 8 ≤ ws.length) : (bytesL ws)[64 * n + k]? = some (byteAt (lineW ws n) k) := by
  rw [bytesL_get _ _ (by omega)]
  unfold byteAt
  rw [lineW_get _ (by omega), show (64 * n + k) / 8 = 8 * n + k / 8 by omega, show (64 * n + k) % 8 = k % 8 by omega]
set_option maxHeartbeats 2000000 in
set_option maxRecDepth 100000 in
theorem line_any (ws : List Nat) (n m : Nat) (a : Option Addr) (c : Nat) (hm : ws.length = m * 8) (hn : n < m) (hm2 : m ≤ 5000) (hc : m * 64 ≤ c) (hc2 : c ≤ 9223372036854775807) (hw : ∀ x ∈ ws, x < 18446744073709551616)
    (hr : Rd w (.slice a (bytesL ws).length c) (bytesL ws).length (u8s (bytesL ws))) :
    Calls Try.prog 96 #[.slice a (bytesL ws).length c, .int .i64 (n : Int)] w fun e w' => e = .returned (aggW (lineW ws n)) ∧ Below w.heap.size w w' := by
  generalize hpost : (fun (e : Ending) w' => e = .returned (aggW (lineW ws n)) ∧ Below w.heap.size w w') = post
  have hbl : (bytesL ws).length = m * 64 := by rw [bytesL_len]; omega
  have hll := lineW_len hm hn
  have hlt := lineW_lt hw n
  obtain ⟨b0, o0, c0', ea, fa⟩ := hr.cells (by rw [hbl]; omega)
  simp only [Value.slice.injEq, true_and] at ea
  obtain ⟨rfl, e1⟩ := ea
  have hb0 : ∀ k, k < 64 → w.cell? ⟨b0, o0 + (64 * n + k), none⟩ = some (.int .u8 ((byteAt (lineW ws n) k : Nat) : Int)) := fun k hk => fa _ _ (u8s_get _ _ _ (line_byte k hk (by omega)))
  rw [hbl]
  obtain ⟨W0, hW0⟩ : ∃ W0, W0 = (w.alloc (.cells #[.int .u64 0, .int .u64 0, .int .u64 0, .int .u64 0, .int .u64 0, .int .u64 0, .int .u64 0, .int .u64 0] 186)).alloc (.cells #[.int .u64 0, .int .u64 0, .int .u64 0, .int .u64 0, .int .u64 0, .int .u64 0, .int .u64 0, .int .u64 0] 186) := ⟨_, rfl⟩
  have hz1 : Has W0 w.heap.size [.int .u64 0, .int .u64 0, .int .u64 0, .int .u64 0, .int .u64 0, .int .u64 0, .int .u64 0, .int .u64 0] 186 := by rw [hW0]; exact (Has.new w [.int .u64 0, .int .u64 0, .int .u64 0, .int .u64 0, .int .u64 0, .int .u64 0, .int .u64 0, .int .u64 0] 186).alloc _
  have hz2 : Has W0 (w.heap.size + 1) (cellsW (partL (lineW ws n) 0)) 186 := by
    rw [hW0, partL_zero, hll]
    have := Has.new (w.alloc (.cells #[.int .u64 0, .int .u64 0, .int .u64 0, .int .u64 0, .int .u64 0, .int .u64 0, .int .u64 0, .int .u64 0] 186)) [.int .u64 0, .int .u64 0, .int .u64 0, .int .u64 0, .int .u64 0, .int .u64 0, .int .u64 0, .int .u64 0] 186
    rw [World.size_alloc] at this
    exact this
  have hB0 : Below w.heap.size w W0 := by rw [hW0]; exact ((Below.refl _ _).alloc (Nat.le_refl _) _).alloc (by simp) _
  have hfin : ∀ w', Below w.heap.size w w' → post (.returned (aggW (lineW ws n))) w' := fun w' h => by rw [← hpost]; exact ⟨rfl, h⟩
  have hnI : (n : Int) < 5000 := by omega
  have hn1 : (n : Int) * 64 ≤ ((n : Int) + 1) * 64 := by omega
  have hn2 : ((n : Int) + 1) * 64 ≤ (c : Int) := by omega
  have hn3 : (0 : Int) ≤ (n : Int) * 64 := by omega
  have hn4 : ((n : Int) * 64).toNat = 64 * n := by omega
  have hn5 : (((n : Int) + 1) * 64 - (n : Int) * 64).toNat = 64 := by omega
  have hn6 : (((n : Int) + 1) * 64).toNat - 64 * n = 64 := by omega
  replace hpost := Lib.hid hpost
  replace hfin := Lib.hid hfin
  replace hbl := Lib.hid hbl
  replace hW0 := Lib.hid hW0
  replace hz1 := Lib.hid hz1
  replace hz2 := Lib.hid hz2
  replace hB0 := Lib.hid hB0
  replace hb0 := Lib.hid hb0
  replace hll := Lib.hid hll
  replace hm := Lib.hid hm
  replace e1 := Lib.hid e1
  clear hr fa
  go_enter Try.func96, Try.ntmps96
  go_wp2_with fail
  rw [← hW0.out]
  go_loopw [16] (fun iv wr => ∃ k : Nat, k ≤ 64 ∧ iv = .int .i64 (k : Int) ∧ Has wr (w.heap.size + 1) (cellsW (partL (lineW ws n) k)) 186 ∧ Has wr w.heap.size [.int .u64 0, .int .u64 0, .int .u64 0, .int .u64 0, .int .u64 0, .int .u64 0, .int .u64 0, .int .u64 0] 186 ∧ Below w.heap.size w wr) (fun iv _ => 64 - (intOf iv).toNat)
  case atStart => exact ⟨0, by omega, rfl, hz2.out, hz1.out, hB0.out⟩
  case round =>
    clear hz1 hz2 hB0
    obtain ⟨k, hk, rfl, hC, hZ, hBr⟩ := hrel
    by_cases hlt2 : k < 64
    · have hkI : decide ((k : Int) < 64) = true := decide_eq_true (by omega)
      have hkJ := Lib.hid (show wrap64 ((k : Int) + 1) = (k : Int) + 1 by unfold wrap64; omega)
      have hk0 : (0 : Int) ≤ (k : Int) := by omega
      have hk6 : (k : Int) < 64 := by omega
      have hk8 : ((k / 8 : Nat) : Int) < 8 := by omega
      have hkn8 : k / 8 < 8 := by omega
      have hkl : k < (lineW ws n).length * 8 := by rw [hll.out]; omega
      have cB := (hBr.cell (World.block_lt_of_cell? _ _ (hb0.out k hlt2))).trans (hb0.out k hlt2)
      rw [← Nat.add_assoc] at cB
      have hp8 : (partL (lineW ws n) k).length = 8 := by rw [partL_len]; exact hll.out
      have cp := hC.cell (cellsW_get _ (k / 8) hkn8)
      have fp := hC.free (k / 8)
      have hb256 := byteAt_lt (lineW ws n) k
      have hat := partL_at (lineW ws n) k hkl
      have hor := or_wrap ((partL (lineW ws n) k).getD (k / 8) 0) (byteAt (lineW ws n) k) (k % 8) hat hb256 (by omega)
      have hsucc := partL_succ (lineW ws n) k hkl
      have hwt : wat (partL (lineW ws n) k) (k / 8) = (partL (lineW ws n) k).getD (k / 8) 0 := rfl
      rw [hwt] at cp
      have hcs := fun v => cellsW_set (partL (lineW ws n) k) hp8 (k / 8) v hkn8
      have hSt := fun v => hC.set (k / 8) (.int .u64 v)
      generalize byteAt (lineW ws n) k = x at *
      generalize (partL (lineW ws n) k).getD (k / 8) 0 = y at *
      replace hor := Lib.hid hor
      replace hat := Lib.hid hat
      replace hsucc := Lib.hid hsucc
      replace hp8 := Lib.hid hp8
      have hS : Has (wr.setCell ⟨w.heap.size + 1, k / 8, none⟩ (.int .u64 (bits .or .u64 (y : Int) (IntKind.u64.wrap ((x : Int) * 2 ^ (k % 8 * 8)))))) (w.heap.size + 1) (cellsW (partL (lineW ws n) (k + 1))) 186 := by
        rw [hsucc.out, hcs, hor.out]; exact hSt _
      have hZ2 : Has (wr.setCell ⟨w.heap.size + 1, k / 8, none⟩ (.int .u64 (bits .or .u64 (y : Int) (IntKind.u64.wrap ((x : Int) * 2 ^ (k % 8 * 8)))))) w.heap.size _ _ := hZ.set_ne (a := ⟨w.heap.size + 1, k / 8, none⟩) (by show w.heap.size ≠ w.heap.size + 1; omega) _
      have hB2 := hBr.setCell (p := ⟨w.heap.size + 1, k / 8, none⟩) (by show w.heap.size ≤ w.heap.size + 1; omega) (.int .u64 (bits .or .u64 (y : Int) (IntKind.u64.wrap ((x : Int) * 2 ^ (k % 8 * 8)))))
      replace hS := Lib.hid hS
      replace hZ2 := Lib.hid hZ2
      replace hB2 := Lib.hid hB2
      replace hwt := Lib.hid hwt
      clear hC hZ hBr hcs hSt
      replace hlt2 := Lib.hid hlt2
      replace hk := Lib.hid hk
      go_wp2_with fail
      exact ⟨⟨k + 1, by have := hlt2.out; omega, rfl, hS.out, hZ2.out, hB2.out⟩, by have := hlt2.out; simp [intOf]; omega⟩
    · obtain rfl : k = 64 := by omega
      have e1 : partL (lineW ws n) 64 = lineW ws n := by
        have := partL_all (lineW ws n) hlt
        rw [hll.out] at this
        exact this
      rw [e1] at hC
      replace e1 := Lib.hid e1
      have l1 := Lib.hid (cont_load hC)
      have r0 := hZ.cell (o := 0) rfl
      have f0 := hZ.free 0
      have r1 := hZ.cell (o := 1) rfl
      have f1 := hZ.free 1
      have r2 := hZ.cell (o := 2) rfl
      have f2 := hZ.free 2
      have r3 := hZ.cell (o := 3) rfl
      have f3 := hZ.free 3
      have r4 := hZ.cell (o := 4) rfl
      have f4 := hZ.free 4
      have r5 := hZ.cell (o := 5) rfl
      have f5 := hZ.free 5
      have r6 := hZ.cell (o := 6) rfl
      have f6 := hZ.free 6
      have r7 := hZ.cell (o := 7) rfl
      have f7 := hZ.free 7
      have g0 := hZ.set 0 (.int .u64 ((wat (lineW ws n) 0 : Nat) : Int))
      have q0 := g0.cell (o := 0) rfl
      have g1 := g0.set 1 (.int .u64 ((wat (lineW ws n) 1 : Nat) : Int))
      have q1 := g1.cell (o := 1) rfl
      have g2 := g1.set 2 (.int .u64 ((wat (lineW ws n) 2 : Nat) : Int))
      have q2 := g2.cell (o := 2) rfl
      have g3 := g2.set 3 (.int .u64 ((wat (lineW ws n) 3 : Nat) : Int))
      have q3 := g3.cell (o := 3) rfl
      have g4 := g3.set 4 (.int .u64 ((wat (lineW ws n) 4 : Nat) : Int))
      have q4 := g4.cell (o := 4) rfl
      have g5 := g4.set 5 (.int .u64 ((wat (lineW ws n) 5 : Nat) : Int))
      have q5 := g5.cell (o := 5) rfl
      have g6 := g5.set 6 (.int .u64 ((wat (lineW ws n) 6 : Nat) : Int))
      have q6 := g6.cell (o := 6) rfl
      have g7 := g6.set 7 (.int .u64 ((wat (lineW ws n) 7 : Nat) : Int))
      have q7 := g7.cell (o := 7) rfl
      have hBf : Below w.heap.size w ((((((((wr.setCell ⟨w.heap.size, 0, none⟩ (.int .u64 ((wat (lineW ws n) 0 : Nat) : Int))).setCell ⟨w.heap.size, 1, none⟩ (.int .u64 ((wat (lineW ws n) 1 : Nat) : Int))).setCell ⟨w.heap.size, 2, none⟩ (.int .u64 ((wat (lineW ws n) 2 : Nat) : Int))).setCell ⟨w.heap.size, 3, none⟩ (.int .u64 ((wat (lineW ws n) 3 : Nat) : Int))).setCell ⟨w.heap.size, 4, none⟩ (.int .u64 ((wat (lineW ws n) 4 : Nat) : Int))).setCell ⟨w.heap.size, 5, none⟩ (.int .u64 ((wat (lineW ws n) 5 : Nat) : Int))).setCell ⟨w.heap.size, 6, none⟩ (.int .u64 ((wat (lineW ws n) 6 : Nat) : Int))).setCell ⟨w.heap.size, 7, none⟩ (.int .u64 ((wat (lineW ws n) 7 : Nat) : Int))) := ((((((((hBr.setCell (p := ⟨w.heap.size, 0, none⟩) (Nat.le_refl _) _).setCell (p := ⟨w.heap.size, 1, none⟩) (Nat.le_refl _) _).setCell (p := ⟨w.heap.size, 2, none⟩) (Nat.le_refl _) _).setCell (p := ⟨w.heap.size, 3, none⟩) (Nat.le_refl _) _).setCell (p := ⟨w.heap.size, 4, none⟩) (Nat.le_refl _) _).setCell (p := ⟨w.heap.size, 5, none⟩) (Nat.le_refl _) _).setCell (p := ⟨w.heap.size, 6, none⟩) (Nat.le_refl _) _).setCell (p := ⟨w.heap.size, 7, none⟩) (Nat.le_refl _) _)
      have hx := Lib.hid (hfin.out _ hBf)
      have hkI : decide ((64 : Int) < 64) = false := decide_eq_false (by omega)
      clear hBf g0 g1 g2 g3 g4 g5 g6 g7 hC hZ hk hlt2
      have ex0 : aggW (lineW ws n) = .agg #[.int .u64 ((wat (lineW ws n) 0 : Nat) : Int), .int .u64 ((wat (lineW ws n) 1 : Nat) : Int), .int .u64 ((wat (lineW ws n) 2 : Nat) : Int), .int .u64 ((wat (lineW ws n) 3 : Nat) : Int), .int .u64 ((wat (lineW ws n) 4 : Nat) : Int), .int .u64 ((wat (lineW ws n) 5 : Nat) : Int), .int .u64 ((wat (lineW ws n) 6 : Nat) : Int), .int .u64 ((wat (lineW ws n) 7 : Nat) : Int)] := rfl
      rw [ex0] at l1
      replace ex0 := Lib.hid ex0
      go_wp2_with (refine wpList_loadA rfl (.tmp 5) 186 rfl _ l1.out ?_)
      exact bodyPost_ret (v := aggW (lineW ws n)) (by simp [results, Try.results96, go_sem, q0, q1, q2, q3, q4, q5, q6, q7]; rfl) rfl hx.out
end Go.Proofs.Ytjmdibgncaljaaa.Dev
