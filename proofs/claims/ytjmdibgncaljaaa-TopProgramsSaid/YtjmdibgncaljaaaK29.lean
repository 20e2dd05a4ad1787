/- crashset: the content of a line among bytes. crashset: find: the least prefixes that make an image. crashset: Possible and Index. -/
import Derived.Test.YtjmdibgncaljaaaK26
import Derived.IntWalk
import Derived.Test.YtjmdibgncaljaaaQRI
import Derived.Test.YtjmdibgncaljaaaF3
namespace Go.Proofs.Ytjmdibgncaljaaa.Dev
open Go.RowKit Go.Maps
variable {w : World} {R : Dv} {T : Nat}
theorem lineW_get {ws : List Nat} {n : Nat} (i : Nat) (hi : i < 8) : (lineW ws n).getD i 0 = ws.getD (8 * n + i) 0 := by
  unfold lineW
  rw [List.getD, List.getD, List.getElem?_take, if_pos hi, List.getElem?_drop]
theorem lineW_lt {ws : List Nat} (h : ∀ x ∈ ws, x < 18446744073709551616) (n : Nat) : ∀ x ∈ lineW ws n, x < 18446744073709551616 := by
  intro x hx
  unfold lineW at hx
  exact h x (List.mem_of_mem_drop (List.mem_of_mem_take hx))
theorem line_byte {ws : List Nat} {n : Nat} (k : Nat) (hk : k < 64) (hn : 8 * n + 8 ≤ ws.length) : (bytesL ws)[64 * n + k]? = some (byteAt (lineW ws n) k) := by
  rw [bytesL_get _ _ (by omega)]
  unfold byteAt
  rw [lineW_get _ (by omega), show (64 * n + k) / 8 = 8 * n + k / 8 by omega, show (64 * n + k) % 8 = k % 8 by omega]
set_option maxHeartbeats 2000000 in
set_option maxRecDepth 100000 in
theorem line_any (ws : List Nat) (n m : Nat) (a : Option Addr) (c : Nat) (hm : ws.length = m * 8) (hn : n < m) (hm2 : m ≤ 5000) (hc : m * 64 ≤ c) (hc2 : c ≤ 9223372036854775807) (hw : ∀ x ∈ ws, x < 18446744073709551616)
    (hr : Rd w (.slice a (bytesL ws).length c) (bytesL ws).length (u8s (bytesL ws))) :
    Calls Try.prog 96 #[.slice a (bytesL ws).length c, .int .i64 (n : Int)] w fun e w' => e = .returned (aggW (lineW ws n)) ∧ Below w.heap.size w w' := by
  generalize hpost : (fun (e : Ending) w' => e = .returned (aggW (lineW ws n)) ∧ Below w.heap.size w w') = post
  have hbl : (bytesL ws).length = m * 64 := by rw [bytesL_len]; omega
  have hll := lineW_len hm hn
  have hlt := lineW_lt hw n
  obtain ⟨b0, o0, c0', ea, fa⟩ := hr.cells (by rw [hbl]; omega)
  simp only [Value.slice.injEq, true_and] at ea
  obtain ⟨rfl, e1⟩ := ea
  have hb0 : ∀ k, k < 64 → w.cell? ⟨b0, o0 + (64 * n + k), none⟩ = some (.int .u8 ((byteAt (lineW ws n) k : Nat) : Int)) := fun k hk => fa _ _ (u8s_get _ _ _ (line_byte k hk (by omega)))
  rw [hbl]
  obtain ⟨W0, hW0⟩ : ∃ W0, W0 = (w.alloc (.cells #[.int .u64 0, .int .u64 0, .int .u64 0, .int .u64 0, .int .u64 0, .int .u64 0, .int .u64 0, .int .u64 0] 186)).alloc (.cells #[.int .u64 0, .int .u64 0, .int .u64 0, .int .u64 0, .int .u64 0, .int .u64 0, .int .u64 0, .int .u64 0] 186) := ⟨_, rfl⟩
  have hz1 : Has W0 w.heap.size [.int .u64 0, .int .u64 0, .int .u64 0, .int .u64 0, .int .u64 0, .int .u64 0, .int .u64 0, .int .u64 0] 186 := by rw [hW0]; exact (Has.new w [.int .u64 0, .int .u64 0, .int .u64 0, .int .u64 0, .int .u64 0, .int .u64 0, .int .u64 0, .int .u64 0] 186).alloc _
  have hz2 : Has W0 (w.heap.size + 1) (cellsW (partL (lineW ws n) 0)) 186 := by
    rw [hW0, partL_zero, hll]
    have := Has.new (w.alloc (.cells #[.int .u64 0, .int .u64 0, .int .u64 0, .int .u64 0, .int .u64 0, .int .u64 0, .int .u64 0, .int .u64 0] 186)) [.int .u64 0, .int .u64 0, .int .u64 0, .int .u64 0, .int .u64 0, .int .u64 0, .int .u64 0, .int .u64 0] 186
    rw [World.size_alloc] at this
    exact this
  have hB0 : Below w.heap.size w W0 := by rw [hW0]; exact ((Below.refl _ _).alloc (Nat.le_refl _) _).alloc (by simp) _
  have hfin : ∀ w', Below w.heap.size w w' → post (.returned (aggW (lineW ws n))) w' := fun w' h => by rw [← hpost]; exact ⟨rfl, h⟩
  have hnI : (n : Int) < 5000 := by omega
  have hn1 : (n : Int) * 64 ≤ ((n : Int) + 1) * 64 := by omega
  have hn2 : ((n : Int) + 1) * 64 ≤ (c : Int) := by omega
  have hn3 : (0 : Int) ≤ (n : Int) * 64 := by omega
  have hn4 : ((n : Int) * 64).toNat = 64 * n := by omega
  have hn5 : (((n : Int) + 1) * 64 - (n : Int) * 64).toNat = 64 := by omega
  have hn6 : (((n : Int) + 1) * 64).toNat - 64 * n = 64 := by omega
  replace hpost := Lib.hid hpost
  replace hfin := Lib.hid hfin
  replace hbl := Lib.hid hbl
  replace hW0 := Lib.hid hW0
  replace hz1 := Lib.hid hz1
  replace hz2 := Lib.hid hz2
  replace hB0 := Lib.hid hB0
  replace hb0 := Lib.hid hb0
  replace hll := Lib.hid hll
  replace hm := Lib.hid hm
  replace e1 := Lib.hid e1
  clear hr fa
  go_enter Try.func96, Try.ntmps96
  go_wp2_with fail
  rw [← hW0.out]
  go_loopw [16] (fun iv wr => ∃ k : Nat, k ≤ 64 ∧ iv = .int .i64 (k : Int) ∧ Has wr (w.heap.size + 1) (cellsW (partL (lineW ws n) k)) 186 ∧ Has wr w.heap.size [.int .u64 0, .int .u64 0, .int .u64 0, .int .u64 0, .int .u64 0, .int .u64 0, .int .u64 0, .int .u64 0] 186 ∧ Below w.heap.size w wr) (fun iv _ => 64 - (intOf iv).toNat)
  case atStart => exact ⟨0, by omega, rfl, hz2.out, hz1.out, hB0.out⟩
  case round =>
    clear hz1 hz2 hB0
    obtain ⟨k, hk, rfl, hC, hZ, hBr⟩ := hrel
    by_cases hlt2 : k < 64
    · have hkI : decide ((k : Int) < 64) = true := decide_eq_true (by omega)
      have hkJ := Lib.hid (show wrap64 ((k : Int) + 1) = (k : Int) + 1 by unfold wrap64; omega)
      have hk0 : (0 : Int) ≤ (k : Int) := by omega
      have hk6 : (k : Int) < 64 := by omega
      have hk8 : ((k / 8 : Nat) : Int) < 8 := by omega
      have hkn8 : k / 8 < 8 := by omega
      have hkl : k < (lineW ws n).length * 8 := by rw [hll.out]; omega
      have cB := (hBr.cell (World.block_lt_of_cell? _ _ (hb0.out k hlt2))).trans (hb0.out k hlt2)
      rw [← Nat.add_assoc] at cB
      have hp8 : (partL (lineW ws n) k).length = 8 := by rw [partL_len]; exact hll.out
      have cp := hC.cell (cellsW_get _ (k / 8) hkn8)
      have fp := hC.free (k / 8)
      have hb256 := byteAt_lt (lineW ws n) k
      have hat := partL_at (lineW ws n) k hkl
      have hor := or_wrap ((partL (lineW ws n) k).getD (k / 8) 0) (byteAt (lineW ws n) k) (k % 8) hat hb256 (by omega)
      have hsucc := partL_succ (lineW ws n) k hkl
      have hwt : wat (partL (lineW ws n) k) (k / 8) = (partL (lineW ws n) k).getD (k / 8) 0 := rfl
      rw [hwt] at cp
      have hcs := fun v => cellsW_set (partL (lineW ws n) k) hp8 (k / 8) v hkn8
      have hSt := fun v => hC.set (k / 8) (.int .u64 v)
      generalize byteAt (lineW ws n) k = x at *
      generalize (partL (lineW ws n) k).getD (k / 8) 0 = y at *
      replace hor := Lib.hid hor
      replace hat := Lib.hid hat
      replace hsucc := Lib.hid hsucc
      replace hp8 := Lib.hid hp8
      have hS : Has (wr.setCell ⟨w.heap.size + 1, k / 8, none⟩ (.int .u64 (bits .or .u64 (y : Int) (IntKind.u64.wrap ((x : Int) * 2 ^ (k % 8 * 8)))))) (w.heap.size + 1) (cellsW (partL (lineW ws n) (k + 1))) 186 := by
        rw [hsucc.out, hcs, hor.out]; exact hSt _
      have hZ2 : Has (wr.setCell ⟨w.heap.size + 1, k / 8, none⟩ (.int .u64 (bits .or .u64 (y : Int) (IntKind.u64.wrap ((x : Int) * 2 ^ (k % 8 * 8)))))) w.heap.size _ _ := hZ.set_ne (a := ⟨w.heap.size + 1, k / 8, none⟩) (by show w.heap.size ≠ w.heap.size + 1; omega) _
      have hB2 := hBr.setCell (p := ⟨w.heap.size + 1, k / 8, none⟩) (by show w.heap.size ≤ w.heap.size + 1; omega) (.int .u64 (bits .or .u64 (y : Int) (IntKind.u64.wrap ((x : Int) * 2 ^ (k % 8 * 8)))))
      replace hS := Lib.hid hS
      replace hZ2 := Lib.hid hZ2
      replace hB2 := Lib.hid hB2
      replace hwt := Lib.hid hwt
      clear hC hZ hBr hcs hSt
      replace hlt2 := Lib.hid hlt2
      replace hk := Lib.hid hk
      go_wp2_with fail
      exact ⟨⟨k + 1, by have := hlt2.out; omega, rfl, hS.out, hZ2.out, hB2.out⟩, by have := hlt2.out; simp [intOf]; omega⟩
    · obtain rfl : k = 64 := by omega
      have e1 : partL (lineW ws n) 64 = lineW ws n := by
        have := partL_all (lineW ws n) hlt
        rw [hll.out] at this
        exact this
      rw [e1] at hC
      replace e1 := Lib.hid e1
      have l1 := Lib.hid (cont_load hC)
      have r0 := hZ.cell (o := 0) rfl
      have f0 := hZ.free 0
      have r1 := hZ.cell (o := 1) rfl
      have f1 := hZ.free 1
      have r2 := hZ.cell (o := 2) rfl
      have f2 := hZ.free 2
      have r3 := hZ.cell (o := 3) rfl
      have f3 := hZ.free 3
      have r4 := hZ.cell (o := 4) rfl
      have f4 := hZ.free 4
      have r5 := hZ.cell (o := 5) rfl
      have f5 := hZ.free 5
      have r6 := hZ.cell (o := 6) rfl
      have f6 := hZ.free 6
      have r7 := hZ.cell (o := 7) rfl
      have f7 := hZ.free 7
      have g0 := hZ.set 0 (.int .u64 ((wat (lineW ws n) 0 : Nat) : Int))
      have q0 := g0.cell (o := 0) rfl
      have g1 := g0.set 1 (.int .u64 ((wat (lineW ws n) 1 : Nat) : Int))
      have q1 := g1.cell (o := 1) rfl
      have g2 := g1.set 2 (.int .u64 ((wat (lineW ws n) 2 : Nat) : Int))
      have q2 := g2.cell (o := 2) rfl
      have g3 := g2.set 3 (.int .u64 ((wat (lineW ws n) 3 : Nat) : Int))
      have q3 := g3.cell (o := 3) rfl
      have g4 := g3.set 4 (.int .u64 ((wat (lineW ws n) 4 : Nat) : Int))
      have q4 := g4.cell (o := 4) rfl
      have g5 := g4.set 5 (.int .u64 ((wat (lineW ws n) 5 : Nat) : Int))
      have q5 := g5.cell (o := 5) rfl
      have g6 := g5.set 6 (.int .u64 ((wat (lineW ws n) 6 : Nat) : Int))
      have q6 := g6.cell (o := 6) rfl
      have g7 := g6.set 7 (.int .u64 ((wat (lineW ws n) 7 : Nat) : Int))
      have q7 := g7.cell (o := 7) rfl
      have hBf : Below w.heap.size w ((((((((wr.setCell ⟨w.heap.size, 0, none⟩ (.int .u64 ((wat (lineW ws n) 0 : Nat) : Int))).setCell ⟨w.heap.size, 1, none⟩ (.int .u64 ((wat (lineW ws n) 1 : Nat) : Int))).setCell ⟨w.heap.size, 2, none⟩ (.int .u64 ((wat (lineW ws n) 2 : Nat) : Int))).setCell ⟨w.heap.size, 3, none⟩ (.int .u64 ((wat (lineW ws n) 3 : Nat) : Int))).setCell ⟨w.heap.size, 4, none⟩ (.int .u64 ((wat (lineW ws n) 4 : Nat) : Int))).setCell ⟨w.heap.size, 5, none⟩ (.int .u64 ((wat (lineW ws n) 5 : Nat) : Int))).setCell ⟨w.heap.size, 6, none⟩ (.int .u64 ((wat (lineW ws n) 6 : Nat) : Int))).setCell ⟨w.heap.size, 7, none⟩ (.int .u64 ((wat (lineW ws n) 7 : Nat) : Int))) := ((((((((hBr.setCell (p := ⟨w.heap.size, 0, none⟩) (Nat.le_refl _) _).setCell (p := ⟨w.heap.size, 1, none⟩) (Nat.le_refl _) _).setCell (p := ⟨w.heap.size, 2, none⟩) (Nat.le_refl _) _).setCell (p := ⟨w.heap.size, 3, none⟩) (Nat.le_refl _) _).setCell (p := ⟨w.heap.size, 4, none⟩) (Nat.le_refl _) _).setCell (p := ⟨w.heap.size, 5, none⟩) (Nat.le_refl _) _).setCell (p := ⟨w.heap.size, 6, none⟩) (Nat.le_refl _) _).setCell (p := ⟨w.heap.size, 7, none⟩) (Nat.le_refl _) _)
      have hx := Lib.hid (hfin.out _ hBf)
      have hkI : decide ((64 : Int) < 64) = false := decide_eq_false (by omega)
      clear hBf g0 g1 g2 g3 g4 g5 g6 g7 hC hZ hk hlt2
      have ex0 : aggW (lineW ws n) = .agg #[.int .u64 ((wat (lineW ws n) 0 : Nat) : Int), .int .u64 ((wat (lineW ws n) 1 : Nat) : Int), .int .u64 ((wat (lineW ws n) 2 : Nat) : Int), .int .u64 ((wat (lineW ws n) 3 : Nat) : Int), .int .u64 ((wat (lineW ws n) 4 : Nat) : Int), .int .u64 ((wat (lineW ws n) 5 : Nat) : Int), .int .u64 ((wat (lineW ws n) 6 : Nat) : Int), .int .u64 ((wat (lineW ws n) 7 : Nat) : Int)] := rfl
      rw [ex0] at l1
      replace ex0 := Lib.hid ex0
      go_wp2_with (refine wpList_loadA rfl (.tmp 5) 186 rfl _ l1.out ?_)
      exact bodyPost_ret (v := aggW (lineW ws n)) (by simp [results, Try.results96, go_sem, q0, q1, q2, q3, q4, q5, q6, q7]; rfl) rfl hx.out
end Go.Proofs.Ytjmdibgncaljaaa.Dev

namespace Go.Proofs.Ytjmdibgncaljaaa.Dev
open Go.RowKit Go.Maps
variable {w : World} {R : Dv} {T : Nat}
theorem make0 {P : Program} (t e : TypeId) (z : Value) (bytes : Nat) (ht : P.underlying t = some (.slice e)) (hi : (P.info? e).map (fun i => (i.zero, i.size, i.bytes)) = some (some z, 1, bytes)) (hz : z.cells = #[z])
    (n : Nat) (hb : n * bytes ≤ 281474976710656) (hn : n ≤ 9223372036854775807) (w : World) :
    (Instr.makeSlice t (.int .i64 0) (.int .i64 n)).run P w = .ok (.slice (some ⟨w.heap.size, 0, none⟩) 0 n) (w.alloc (.cells (Array.replicate n z) e)) := by
  obtain ⟨i, h1, h2, h3, h4⟩ := info_parts hi
  have hb' : (i.bytes : Int) * (n : Int) ≤ 281474976710656 := by
    have h : ((i.bytes * n : Nat) : Int) ≤ 281474976710656 := by rw [h4, Nat.mul_comm]; omega
    rwa [Int.natCast_mul] at h
  have := run_make (P := P) w t e i z ht h1 h2 .i64 .i64 0 n (Int.le_refl _) (by omega) hb' (by omega)
  simp only [Int.toNat_natCast, h3, Nat.mul_one, hz] at this
  rw [this]
  have e : madeCells #[z] n = Array.replicate n z := by
    apply Array.ext'
    rw [toList_madeCells_one, Array.toList_replicate]
  rw [e]; rfl
/-- The bytes of an image, with the room of their slice. -/
def BytesRc (w : World) (bs : List Nat) (e : Ending) (w' : World) : Prop := ∃ b c, e = .returned (.slice (some ⟨b, 0, none⟩) bs.length c) ∧ bs.length ≤ c ∧ c ≤ 9223372036854775807 ∧ Rd w' (.slice (some ⟨b, 0, none⟩) bs.length c) bs.length (u8s bs) ∧ Below w.heap.size w w' ∧ w.heap.size < b
set_option maxHeartbeats 1000000 in
theorem ibytes_cap (w : World) (bs : List Nat) (h256 : ∀ x ∈ bs, x < 256) (hl : bs.length ≤ 1000000) : Calls Try.prog 19 #[.agg #[.string (strOf bs)]] w (BytesRc w bs) := by
  generalize hpost : BytesRc w bs = post
  have hcv := run_bytes_of_string (P := Try.prog) (w.alloc (.cells #[.string (strOf bs)] 53)) 9 28 5 (strOf bs) Try.underlying9 Try.underlying28 Try.underlying5
  have hfin : ∀ n c fz, bs.length ≤ c → c ≤ 9223372036854775807 → post (.returned (.slice (some ⟨(w.alloc (.cells #[.string (strOf bs)] 53)).heap.size, 0, none⟩) bs.length c)) ((w.alloc (.cells #[.string (strOf bs)] 53)).drew.alloc (.cells (bytesRow (strOf bs) n) 5 fz)) := fun n c fz h1 h2 => by
    rw [← hpost]
    have := rd_bytes (w.alloc (.cells #[.string (strOf bs)] 53)).drew bs n fz h256 c
    refine ⟨_, c, rfl, h1, h2, this, ?_, by simp⟩
    exact (((Below.refl _ w).alloc (Nat.le_refl _) _).drew).alloc (by simp) _
  have hsz := strOf_size bs
  rw [hsz] at hcv
  have hge := grownCap_ge (w.alloc (.cells #[.string (strOf bs)] 53)) bs.length 0 5
  have hle := grownCap_le_maxLen (w.alloc (.cells #[.string (strOf bs)] 53)) bs.length 0 5 (by unfold maxLen; omega)
  unfold maxLen at hle
  generalize strOf bs = s at *
  generalize grownCap (w.alloc (.cells #[.string s] 53)) bs.length 0 5 = gc at *
  have hfin2 := hfin gc gc ((bytesRow s gc).size, (bytesRow s gc).size + 1) hge hle
  replace hfin2 := Lib.hid hfin2
  clear hfin
  replace hsz := Lib.hid hsz
  go_enter Try.func19, Try.ntmps19
  go_wp2_with fail
  have hx := hfin2.out
  simp only [World.size_alloc] at hx
  exact hx
theorem per_line (hok : R.Ok T) {n : Nat} (hn : n < R.lines.length) : lineW R.perW n = (R.line n).base := by
  have h := crash_line hok (fun _ => 0) n hn
  rw [crashW_zero] at h
  exact h
def FindPost (w : World) (R : Dv) (ws : List Nat) (e : Ending) (w' : World) : Prop :=
  if possB R ws = true then ∃ a c, e = .returned (.tuple #[.slice a (ksL R ws).length c, .bool true]) ∧ w'.ownsRow 0 3 1 (.slice a (ksL R ws).length c) (ksL R ws).length (nats (ksL R ws)) ∧ Below w.heap.size w w' ∧ ∀ j, Value.ownBlock (.slice a (ksL R ws).length c) = some j → w.heap.size ≤ j
  else e = .returned (.tuple #[.slice none 0 0, .bool false]) ∧ Below w.heap.size w w'
theorem poss_len {ws : List Nat} (h : ws.length ≠ R.lines.length * 8) : possB R ws = false := by
  unfold possB; rw [decide_eq_false h]; rfl
theorem poss_no {ws : List Nat} {n : Nat} (hn : n < R.lines.length) (h : leastL (R.line n) (lineW ws n) = none) : possB R ws = false := by
  unfold possB; rw [possTo_false hn h, Bool.and_false]
theorem dirty_other {n : Nat} (hn : ¬ 0 < (R.line n).hist.length) (i : Nat) (d : Nat) (h : (dirtyL R)[i]? = some d) : d ≠ n := fun e => by
  subst e; exact hn (dirtyTo_mem (List.mem_of_getElem? h)).2
set_option maxHeartbeats 4000000 in
set_option maxRecDepth 100000 in
theorem find_any (hok : R.Ok T) {pv lv hv : Value} (hs : SetSt w R pv lv hv) (ws : List Nat) (m : Nat) (hm : ws.length = m * 8) (hm2 : m ≤ 5000) (hw : ∀ x ∈ ws, x < 18446744073709551616) :
    Calls Try.prog 57 #[.agg #[pv, lv, hv], .agg #[.string (strOf (bytesL ws))]] w (FindPost w R ws) := by
  generalize hpost : FindPost w R ws = post
  have hn2 := hok.n2
  have hT := hok.t
  have hpl : (bytesL R.perW).length = R.lines.length * 64 := by rw [bytesL_len, hok.perLen]; omega
  have hbl : (bytesL ws).length = m * 64 := by rw [bytesL_len]; omega
  have hfin : ∀ w', Below w.heap.size w w' → possB R ws = false → post (.returned (.tuple #[.slice none 0 0, .bool false])) w' := fun w' h h1 => by
    rw [← hpost]; unfold FindPost; rw [if_neg (by rw [h1]; decide)]; exact ⟨rfl, h⟩
  have hfin2 : ∀ a c w', Below w.heap.size w w' → possB R ws = true → w'.ownsRow 0 3 1 (.slice a (ksL R ws).length c) (ksL R ws).length (nats (ksL R ws)) → (∀ j, Value.ownBlock (.slice a (ksL R ws).length c) = some j → w.heap.size ≤ j) → post (.returned (.tuple #[.slice a (ksL R ws).length c, .bool true])) w' := fun a c w' h h1 h2 h3 => by
    rw [← hpost]; unfold FindPost; rw [if_pos h1]; exact ⟨a, c, rfl, h2, h, h3⟩
  obtain ⟨⟨pb, rfl, hp⟩, ⟨la, lc, rfl, hl⟩, ⟨ha, hc, vs, rfl, hH, hh⟩⟩ := id hs
  rw [hpl]
  have hdl0 : (dirtyL R).length ≤ R.lines.length := dirtyTo_len R R.lines.length
  obtain ⟨W0, hW0⟩ : ∃ W0, W0 = (w.alloc (.cells #[.slice (some ⟨pb, 0, none⟩) (R.lines.length * 64) (R.lines.length * 64), .slice la (dirtyL R).length lc, .slice ha (dirtyL R).length hc] 127)).alloc (.cells #[.string (strOf (bytesL ws))] 53) := ⟨_, rfl⟩
  have hB0 : Below w.heap.size w W0 := by rw [hW0]; exact ((Below.refl _ _).alloc (Nat.le_refl _) _).alloc (by simp) _
  have hS0 : Has W0 w.heap.size [.slice (some ⟨pb, 0, none⟩) (R.lines.length * 64) (R.lines.length * 64), .slice la (dirtyL R).length lc, .slice ha (dirtyL R).length hc] 127 := by
    rw [hW0]; exact (Has.new w [.slice (some ⟨pb, 0, none⟩) (R.lines.length * 64) (R.lines.length * 64), .slice la (dirtyL R).length lc, .slice ha (dirtyL R).length hc] 127).alloc _
  have hI0 : Has W0 (w.heap.size + 1) [.string (strOf (bytesL ws))] 53 := by
    have := Has.new (w.alloc (.cells #[.slice (some ⟨pb, 0, none⟩) (R.lines.length * 64) (R.lines.length * 64), .slice la (dirtyL R).length lc, .slice ha (dirtyL R).length hc] 127)) [.string (strOf (bytesL ws))] 53
    rw [World.size_alloc] at this
    rw [hW0]; exact this
  have hby := ibytes_cap W0 (bytesL ws) (bytesL_256 _) (by omega)
  unfold BytesRc at hby
  rw [hbl] at hby
  have hli := fun wx => ilines_any wx (bytesL ws) (by omega)
  rw [hbl, show m * 64 / 64 = m by omega] at hli
  have c0 := hI0.cell (o := 0) rfl
  have s0 := hS0.cell (o := 0) rfl
  replace hpost := Lib.hid hpost
  replace hfin := Lib.hid hfin
  replace hfin2 := Lib.hid hfin2
  replace hby := Lib.hid hby
  replace hli := Lib.hid hli
  replace hB0 := Lib.hid hB0
  replace hS0 := Lib.hid hS0
  replace hI0 := Lib.hid hI0
  replace hW0 := Lib.hid hW0
  replace hpl := Lib.hid hpl
  replace hbl := Lib.hid hbl
  replace hm := Lib.hid hm
  clear hs
  go_enter Try.func57, Try.ntmps57
  go_wp2_with fail
  rw [← hW0.out]
  refine hby.out.mono ?_
  rintro e w1 ⟨b, c, rfl, hc1, hc2, hr1, hB1, hb1⟩
  have hs1 := hB1.size
  have s1 := (hS0.out.only (Only.of_below hB1) (by have := hS0.out.lt; omega))
  have i1 := (hI0.out.only (Only.of_below hB1) (by have := hI0.out.lt; omega))
  have hBw := hB0.out.trans (hB1.mono hB0.out.size)
  have s10 := s1.cell (o := 0) rfl
  have s11 := s1.cell (o := 1) rfl
  have s12 := s1.cell (o := 2) rfl
  have i10 := i1.cell (o := 0) rfl
  replace hr1 := Lib.hid hr1
  replace s1 := Lib.hid s1
  replace i1 := Lib.hid i1
  replace hBw := Lib.hid hBw
  clear hby hB1 c0 s0 hS0 hI0 hB0
  by_cases hml : m = R.lines.length
  · subst hml
    have hne : (((R.lines.length : Int) * 64) == ((R.lines.length : Int) * 64)) = true := beq_iff_eq.2 rfl
    have hne2 : (((R.lines.length : Int) * 64) != ((R.lines.length : Int) * 64)) = false := by rw [bne, hne]; rfl
    have hmk := make0 (P := Try.prog) 49 3 (.int .i64 0) 8 Try.underlying49 infoInt rfl (dirtyL R).length (by omega) (by omega) w1
    obtain ⟨w2, hw2⟩ : ∃ w2, w2 = w1.alloc (.cells (Array.replicate (dirtyL R).length (.int .i64 0)) 3) := ⟨_, rfl⟩
    have hB2 : Below w1.heap.size w1 w2 := by rw [hw2]; exact (Below.refl _ _).alloc (Nat.le_refl _) _
    have hown2 : w2.ownsRow 0 3 1 (.slice (some ⟨w1.heap.size, 0, none⟩) 0 (dirtyL R).length) 0 [] := by
      rw [hw2]; exact World.ownsRow_made w1 _ _ (Nat.zero_le _) (by unfold maxLen; omega) (by simp)
    rw [← hw2] at hmk
    have i20 := (hB2.cell (World.block_lt_of_cell? _ _ i10)).trans i10
    replace hw2 := Lib.hid hw2
    replace hB2 := Lib.hid hB2
    replace hown2 := Lib.hid hown2
    go_wp2_with fail
    refine (hli.out w2).mono ?_
    rintro e w3 ⟨rfl, hB3⟩
    have hs2 := hB2.out.size
    have hs3 := hB3.size
    have hB13 := hB2.out.trans (hB3.mono hs2)
    have hown3 := ownsRow_only hown2.out (Only.of_below hB3) (fun k hk => Nat.not_le.2 (ownsRow_lt hown2.out hk))
    have hsA := fun wx (h : Below w1.heap.size w1 wx) => s1.out.only (Only.of_below h) (Nat.not_le.2 s1.out.lt)
    have hPA := fun wx (h : Below w1.heap.size w1 wx) => (hp.only (Only.of_below (hBw.out.trans (h.mono hBw.out.size))) (Nat.not_le.2 hp.lt))
    have hlA := fun wx (h : Below w1.heap.size w1 wx) => hl.kept (hBw.out.trans (h.mono hBw.out.size))
    have hHA := fun wx (h : Below w1.heap.size w1 wx) => hH.kept (hBw.out.trans (h.mono hBw.out.size))
    have hhA := fun wx (h : Below w1.heap.size w1 wx) => hh.kept (hBw.out.trans (h.mono hBw.out.size))
    have hrA := fun wx (h : Below w1.heap.size w1 wx) => hr1.out.kept h
    replace hB13 := Lib.hid hB13
    replace hown3 := Lib.hid hown3
    replace hsA := Lib.hid hsA
    replace hPA := Lib.hid hPA
    replace hlA := Lib.hid hlA
    replace hHA := Lib.hid hHA
    replace hhA := Lib.hid hhA
    replace hrA := Lib.hid hrA
    clear i20 hmk s10 s11 s12 i10 hB3 hown2 hne hne2 hp hl hH hh
    have hWw : w.heap.size ≤ w1.heap.size := hBw.out.size
    go_wp2_with fail
    go_loopw [7, 26] (fun kv iv wr => ∃ (n : Nat) (a : Option Addr) (c : Nat), n ≤ R.lines.length ∧ iv = .int .i64 (n : Int) ∧ kv = .slice a (ksTo R ws n).length c ∧ wr.ownsRow 0 3 1 (.slice a (ksTo R ws n).length c) (ksTo R ws n).length (nats (ksTo R ws n)) ∧ Below w1.heap.size w1 wr ∧ possTo R ws n = true ∧ ∀ j, Value.ownBlock (.slice a (ksTo R ws n).length c) = some j → w1.heap.size ≤ j) (fun _ iv _ => R.lines.length - (intOf iv).toNat)
    case atStart => exact ⟨0, _, _, Nat.zero_le _, rfl, rfl, hown3.out, hB13.out, rfl, fun j hj => by cases hj; exact Nat.le_refl _⟩
    case round =>
      clear hown3 hB13
      obtain ⟨n, a, c', hn, rfl, rfl, hown, hBr, hps, hfr⟩ := hrel
      by_cases hlt : n < R.lines.length
      · have hkI : decide ((n : Int) < (R.lines.length : Int)) = true := decide_eq_true (by omega)
        have hkN : decide (n < R.lines.length) = true := decide_eq_true hlt
        have hLn := hok.ln n hlt
        have s0 := (hsA.out wr hBr).cell (o := 0) rfl
        have s1' := (hsA.out wr hBr).cell (o := 1) rfl
        have s2 := (hsA.out wr hBr).cell (o := 2) rfl
        have hklen := ksTo_len R ws n
        have hksu := ksTo_succ R ws n
        have hpsu := possTo_succ R ws n
        have hnx := dirtyTo_next R n
        have hpre : ∀ (va : Option Addr) (vc : Nat) (wx : World), Rd wx (.slice va (R.line n).hist.length vc) (R.line n).hist.length (wcells (R.line n).hist) → Calls Try.prog 95 #[aggW (lineW R.perW n), .slice va (R.line n).hist.length vc, aggW (lineW ws n)] wx fun e w' => e = .returned (.int .i64 (leastI (R.line n) (lineW ws n))) ∧ Below wx.heap.size wx w' := fun va vc wx h => by
          rw [per_line hok hlt]
          exact prefix_any5 (R.line n) (lineW ws n) va vc hLn.b (lineW_len hm.out hlt) hLn.bv (lineW_lt hw n) (by have := hLn.hl; omega) h (fun p h => ⟨by have := hLn.h p h; omega, (hLn.h p h).2.2⟩)
        have hl1 : ∀ wx, Below w1.heap.size w1 wx → Calls Try.prog 96 #[.slice (some ⟨pb, 0, none⟩) (R.lines.length * 64) (R.lines.length * 64), .int .i64 (n : Int)] wx fun e w' => e = .returned (aggW (lineW R.perW n)) ∧ Below wx.heap.size wx w' := fun wx h => by
          have := line_any (w := wx) R.perW n R.lines.length (some ⟨pb, 0, none⟩) (R.lines.length * 64) (by rw [hok.perLen]; omega) hlt (by omega) (Nat.le_refl _) (by omega) hok.per_lt (Rd.of_has (hPA.out wx h) _ _)
          rw [hpl.out] at this; exact this
        have hl2 : ∀ wx, Below w1.heap.size w1 wx → Calls Try.prog 96 #[.slice (some ⟨b, 0, none⟩) (R.lines.length * 64) c, .int .i64 (n : Int)] wx fun e w' => e = .returned (aggW (lineW ws n)) ∧ Below wx.heap.size wx w' := fun wx h => by
          have := line_any (w := wx) ws n R.lines.length (some ⟨b, 0, none⟩) c hm.out hlt (by omega) hc1 hc2 hw (by rw [hbl.out]; exact hrA.out wx h)
          rw [hbl.out] at this; exact this
        have hnone := fun (h : leastL (R.line n) (lineW ws n) = none) wx (hb : Below w1.heap.size w1 wx) => hfin.out wx (hBw.out.trans (hb.mono hWw)) (poss_no hlt h)
        have hwn := Lib.hid (show wrap64 ((n : Int) + 1) = (n : Int) + 1 by unfold wrap64; omega)
        replace hksu := Lib.hid hksu
        replace hpsu := Lib.hid hpsu
        replace hnx := Lib.hid hnx
        replace hps := Lib.hid hps
        replace hfr := Lib.hid hfr
        replace hklen := Lib.hid hklen
        by_cases hd : 0 < (R.line n).hist.length
        · have hpl2 := dirty_place hlt hd
          have hlt2 := dirty_lt hlt hd
          have e1 : ksTo R ws (n + 1) = ksTo R ws n ++ [leastR R ws n] := by rw [hksu.out, if_pos hd]
          have hkl := hklen.out
          obtain ⟨hva, hvc, hv1, hv2⟩ := (hHA.out wr hBr).2 _ _ hpl2
          have hvd := hv2.rd
          obtain ⟨bl, ol, cl, ea, fa⟩ := (hlA.out wr hBr).cells (by omega)
          simp only [Value.slice.injEq, true_and] at ea
          obtain ⟨rfl, ea2⟩ := ea
          replace ea2 := Lib.hid ea2
          obtain ⟨bh, oh, ch, eb, fb⟩ := (hhA.out wr hBr).cells (by omega)
          simp only [Value.slice.injEq, true_and] at eb
          obtain ⟨rfl, eb2⟩ := eb
          replace eb2 := Lib.hid eb2
          have ck : wr.cell? ⟨bl, ol + (dirtyTo R n).length, none⟩ = some (.int .i64 (n : Int)) := fa _ _ (nats_get _ _ _ hpl2)
          have cq : wr.cell? ⟨bh, oh + (dirtyTo R n).length, none⟩ = some (.slice hva (R.line n).hist.length hvc) := fb _ _ hv1
          have hpr := fun wx (hb : Below wr.heap.size wr wx) => hpre hva hvc wx (hvd.kept hb)
          have hby : ((ksTo R ws n).length + 1) * 8 ≤ 140737488355328 := by omega
          have hr1' := hown
          replace e1 := Lib.hid e1
          replace hpr := Lib.hid hpr
          replace hpl2 := Lib.hid hpl2
          clear hpre fa fb hv1 hv2 hvd
          rw [← hkl] at ck cq hlt2
          have hrel0 : ∀ kk, leastL (R.line n) (lineW ws n) = some kk → ∀ (sa : Option Addr) (cap : Nat) (wx wy : World), Below wr.heap.size wr wx → wy.ownsRow 0 3 1 (.slice sa ((ksTo R ws n).length + 1) cap) ((ksTo R ws n).length + 1) (nats (ksTo R ws n) ++ [.int .i64 (kk : Int)]) → Only (fun k => Value.ownBlock (.slice a (ksTo R ws n).length c') = some k) wx wy →
              (∀ k, Value.ownBlock (.slice sa ((ksTo R ws n).length + 1) cap) = some k → Value.ownBlock (.slice a (ksTo R ws n).length c') = some k ∨ wx.heap.size ≤ k) →
              ∃ (n' : Nat) (a' : Option Addr) (c'' : Nat), n' ≤ R.lines.length ∧ Value.int .i64 ((n : Int) + 1) = .int .i64 (n' : Int) ∧ Value.slice sa ((ksTo R ws n).length + 1) cap = .slice a' (ksTo R ws n').length c'' ∧ wy.ownsRow 0 3 1 (.slice a' (ksTo R ws n').length c'') (ksTo R ws n').length (nats (ksTo R ws n')) ∧ Below w1.heap.size w1 wy ∧ possTo R ws n' = true ∧ ∀ j, Value.ownBlock (.slice a' (ksTo R ws n').length c'') = some j → w1.heap.size ≤ j := fun kk h sa cap wx wy hb h1 h2 h3 => by
            have hl1 : (ksTo R ws (n + 1)).length = (ksTo R ws n).length + 1 := by rw [e1.out, List.length_append, List.length_singleton]
            have hB1 := hBr.trans (hb.mono hBr.size)
            have hle : leastR R ws n = kk := by unfold leastR; exact (leastI_some h).2
            refine ⟨n + 1, sa, cap, by omega, rfl, by rw [hl1], ?_, hB1.trans (h2.below (B := w1.heap.size) hB1.size (fun j _ e => hfr.out j e)), ?_, fun j hj => ?_⟩
            · rw [hl1, e1.out, nats_snoc, hle]; exact h1
            · rw [hpsu.out, hps.out, h]; rfl
            · rw [hl1] at hj
              rcases h3 j hj with h4 | h4
              · exact hfr.out j h4
              · have := hB1.size; omega
          replace hrel0 := Lib.hid hrel0
          have hksl : (nats (ksTo R ws n)).length = (ksTo R ws n).length := nats_len _
          generalize nats (ksTo R ws n) = kc at *
          generalize (ksTo R ws n).length = kl at *
          have g1 : decide ((kl : Int) < ((dirtyL R).length : Int)) = true := decide_eq_true (by omega)
          have g1N : decide (kl < (dirtyL R).length) = true := decide_eq_true hlt2
          have hbe : ((n : Int) == (n : Int)) = true := beq_iff_eq.2 rfl
          have hki : (kl : Int) < ((dirtyL R).length : Int) := by omega
          have hk0 : (0 : Int) ≤ (kl : Int) := by omega
          replace hl1 := Lib.hid hl1
          replace hl2 := Lib.hid hl2
          replace hkl := Lib.hid hkl
          replace hklen := Lib.hid hklen
          replace hksl := Lib.hid hksl
          cases hL : leastL (R.line n) (lineW ws n) with
          | none =>
            have hx := hnone hL
            have hpq := fun wx (hb : Below wr.heap.size wr wx) => (hpr.out wx hb).mono (R' := fun e w' => e = .returned (.int .i64 (-1)) ∧ Below wx.heap.size wx w') (fun e w' h => ⟨by rw [← leastI_none hL]; exact h.1, h.2⟩)
            replace hL := Lib.hid hL
            replace hx := Lib.hid hx
            replace hpq := Lib.hid hpq
            clear hrel0 hpr
            go_wp2_with fail
            refine (hl1.out wr hBr).mono ?_
            rintro e wA ⟨rfl, bA⟩
            have hA := hBr.trans (bA.mono hBr.size)
            clear s0 s1' s2 ck cq
            go_wp2_with fail
            refine (hl2.out wA hA).mono ?_
            rintro e wB ⟨rfl, bB⟩
            have hB := hA.trans (bB.mono hA.size)
            go_wp2_with fail
            refine (hpq.out wB (bA.trans (bB.mono bA.size))).mono ?_
            rintro e wC ⟨rfl, bC⟩
            have hy := Lib.hid (hx.out wC (hB.trans (bC.mono hB.size)))
            go_wp2_with fail
            exact hy.out
          | some kk =>
            have hx := hrel0.out kk hL
            have hpq := fun wx (hb : Below wr.heap.size wr wx) => (hpr.out wx hb).mono (R' := fun e w' => e = .returned (.int .i64 (kk : Int)) ∧ Below wx.heap.size wx w') (fun e w' h => ⟨by rw [← (leastI_some hL).1]; exact h.1, h.2⟩)
            have hkz : decide ((kk : Int) < 0) = false := decide_eq_false (by omega)
            replace hL := Lib.hid hL
            replace hx := Lib.hid hx
            replace hpq := Lib.hid hpq
            clear hrel0 hpr hnone
            go_wp2_with fail
            refine (hl1.out wr hBr).mono ?_
            rintro e wA ⟨rfl, bA⟩
            have hA := hBr.trans (bA.mono hBr.size)
            clear s0 s1' s2 ck cq
            go_wp2_with fail
            refine (hl2.out wA hA).mono ?_
            rintro e wB ⟨rfl, bB⟩
            have hB := hA.trans (bB.mono hA.size)
            go_wp2_with fail
            refine (hpq.out wB (bA.trans (bB.mono bA.size))).mono ?_
            rintro e wC ⟨rfl, bC⟩
            have bwC := (bA.trans (bB.mono bA.size)).trans (bC.mono (bA.trans (bB.mono bA.size)).size)
            have ownC : wC.ownsRow 0 3 1 (.slice a kl c') kl kc := ownsRow_only hr1' (Only.of_below bwC) (fun k hk => Nat.not_le.2 (ownsRow_lt hr1' hk))
            have hy := Lib.hid (fun sa cap wy => hx.out sa cap wC wy bwC)
            clear hx bA bB bC hA hB
            go_wp2_with (at_builtin; refine wpList_app1 rfl (.tmp 64) (.tmp 66) 49 rfl 3 (.int .i64 0) 8 Try.underlying49 infoInt rfl (by decide) a kl c' kc rfl (.int .i64 (kk : Int)) _ wC rfl rfl ownC _ rfl rfl (by simp [Value.oneCell']) hby ?_; intro sa' cap' w5 own5 only5 fresh5)
            exact ⟨hy.out sa' cap' w5 own5 only5 fresh5, by simp [intOf]; omega⟩
        · have hdo := dirty_other hd
          have hh0 : (R.line n).hist.length = 0 := by omega
          have hpr := fun wx => hpre none 0 wx (by rw [hh0, show (R.line n).hist = [] from List.length_eq_zero_iff.1 hh0]; exact Rd.nil wx)
          rw [hh0] at hpr
          replace hpr := Lib.hid hpr
          replace hh0 := Lib.hid hh0
          clear hpre
          have hrel0 : leastL (R.line n) (lineW ws n) ≠ none → ∀ wx, Below wr.heap.size wr wx → ∃ (n' : Nat) (a' : Option Addr) (c'' : Nat), n' ≤ R.lines.length ∧ Value.int .i64 ((n : Int) + 1) = .int .i64 (n' : Int) ∧ Value.slice a (ksTo R ws n).length c' = .slice a' (ksTo R ws n').length c'' ∧ wx.ownsRow 0 3 1 (.slice a' (ksTo R ws n').length c'') (ksTo R ws n').length (nats (ksTo R ws n')) ∧ Below w1.heap.size w1 wx ∧ possTo R ws n' = true ∧ ∀ j, Value.ownBlock (.slice a' (ksTo R ws n').length c'') = some j → w1.heap.size ≤ j := fun h wx hb => by
            have e1 : ksTo R ws (n + 1) = ksTo R ws n := by rw [hksu.out, if_neg hd]
            refine ⟨n + 1, a, c', by omega, rfl, by rw [e1], by rw [e1]; exact ownsRow_only hown (Only.of_below hb) (fun k hk => Nat.not_le.2 (ownsRow_lt hown hk)), hBr.trans (hb.mono hBr.size), ?_, by rw [e1]; exact hfr.out⟩
            rw [hpsu.out, hps.out, Option.isSome_iff_ne_none.2 h]; rfl
          replace hrel0 := Lib.hid hrel0
          have hllt : (ksTo R ws n).length < (dirtyL R).length ∨ (dirtyL R).length ≤ (ksTo R ws n).length := Nat.lt_or_ge _ _
          generalize (ksTo R ws n).length = kl at *
          rcases hllt with hllt | hllt
          · have g1 : decide ((kl : Int) < ((dirtyL R).length : Int)) = true := decide_eq_true (by omega)
            have g1N : decide (kl < (dirtyL R).length) = true := decide_eq_true hllt
            obtain ⟨bl, ol, cl, ea, fa⟩ := (hlA.out wr hBr).cells (by omega)
            simp only [Value.slice.injEq, true_and] at ea
            obtain ⟨rfl, ea2⟩ := ea
            replace ea2 := Lib.hid ea2
            have hdk := get_of_lt 0 hllt
            have ck : wr.cell? ⟨bl, ol + kl, none⟩ = some (.int .i64 (((dirtyL R).getD kl 0 : Nat) : Int)) := fa _ _ (nats_get _ _ _ hdk)
            have hdn := hdo _ _ hdk
            generalize (dirtyL R).getD kl 0 = d at *
            have hbe : ((d : Int) == (n : Int)) = false := beq_eq_false_iff_ne.2 (by omega)
            have hki : (kl : Int) < ((dirtyL R).length : Int) := by omega
            have hk0 : (0 : Int) ≤ (kl : Int) := by omega
            replace hdk := Lib.hid hdk
            replace hdn := Lib.hid hdn
            clear fa hdo
            replace hl1 := Lib.hid hl1
            replace hl2 := Lib.hid hl2
            cases hL : leastL (R.line n) (lineW ws n) with
            | none =>
              have hx := hnone hL
              have hpq := fun wx => (hpr.out wx).mono (R' := fun e w' => e = .returned (.int .i64 (-1)) ∧ Below wx.heap.size wx w') (fun e w' h => ⟨by rw [← leastI_none hL]; exact h.1, h.2⟩)
              replace hL := Lib.hid hL
              replace hx := Lib.hid hx
              replace hpq := Lib.hid hpq
              clear hrel0 hpr
              go_wp2_with fail
              refine (hl1.out wr hBr).mono ?_
              rintro e wA ⟨rfl, bA⟩
              have hA := hBr.trans (bA.mono hBr.size)
              clear s0 s1' s2
              go_wp2_with fail
              refine (hl2.out wA hA).mono ?_
              rintro e wB ⟨rfl, bB⟩
              have hB := hA.trans (bB.mono hA.size)
              go_wp2_with fail
              refine (hpq.out wB).mono ?_
              rintro e wC ⟨rfl, bC⟩
              have hy := Lib.hid (hx.out wC (hB.trans (bC.mono hB.size)))
              go_wp2_with fail
              exact hy.out
            | some kk =>
              have hx := hrel0.out (by rw [hL]; simp)
              have hpq := fun wx => (hpr.out wx).mono (R' := fun e w' => e = .returned (.int .i64 (kk : Int)) ∧ Below wx.heap.size wx w') (fun e w' h => ⟨by rw [← (leastI_some hL).1]; exact h.1, h.2⟩)
              have hkz : decide ((kk : Int) < 0) = false := decide_eq_false (by omega)
              replace hL := Lib.hid hL
              replace hx := Lib.hid hx
              replace hpq := Lib.hid hpq
              clear hrel0 hpr hnone
              go_wp2_with fail
              refine (hl1.out wr hBr).mono ?_
              rintro e wA ⟨rfl, bA⟩
              have hA := hBr.trans (bA.mono hBr.size)
              clear s0 s1' s2
              go_wp2_with fail
              refine (hl2.out wA hA).mono ?_
              rintro e wB ⟨rfl, bB⟩
              have hB := hA.trans (bB.mono hA.size)
              go_wp2_with fail
              refine (hpq.out wB).mono ?_
              rintro e wC ⟨rfl, bC⟩
              have hy := Lib.hid (hx.out wC ((bA.trans (bB.mono bA.size)).trans (bC.mono (bA.trans (bB.mono bA.size)).size)))
              clear hx
              go_wp2_with fail
              exact ⟨hy.out, by simp [intOf]; omega⟩
          · have g1 : decide ((kl : Int) < ((dirtyL R).length : Int)) = false := decide_eq_false (by omega)
            have g1N : decide (kl < (dirtyL R).length) = false := decide_eq_false (by omega)
            clear hdo
            replace hl1 := Lib.hid hl1
            replace hl2 := Lib.hid hl2
            cases hL : leastL (R.line n) (lineW ws n) with
            | none =>
              have hx := hnone hL
              have hpq := fun wx => (hpr.out wx).mono (R' := fun e w' => e = .returned (.int .i64 (-1)) ∧ Below wx.heap.size wx w') (fun e w' h => ⟨by rw [← leastI_none hL]; exact h.1, h.2⟩)
              replace hL := Lib.hid hL
              replace hx := Lib.hid hx
              replace hpq := Lib.hid hpq
              clear hrel0 hpr
              go_wp2_with fail
              refine (hl1.out wr hBr).mono ?_
              rintro e wA ⟨rfl, bA⟩
              have hA := hBr.trans (bA.mono hBr.size)
              clear s0 s1' s2
              go_wp2_with fail
              refine (hl2.out wA hA).mono ?_
              rintro e wB ⟨rfl, bB⟩
              have hB := hA.trans (bB.mono hA.size)
              go_wp2_with fail
              refine (hpq.out wB).mono ?_
              rintro e wC ⟨rfl, bC⟩
              have hy := Lib.hid (hx.out wC (hB.trans (bC.mono hB.size)))
              go_wp2_with fail
              exact hy.out
            | some kk =>
              have hx := hrel0.out (by rw [hL]; simp)
              have hpq := fun wx => (hpr.out wx).mono (R' := fun e w' => e = .returned (.int .i64 (kk : Int)) ∧ Below wx.heap.size wx w') (fun e w' h => ⟨by rw [← (leastI_some hL).1]; exact h.1, h.2⟩)
              have hkz : decide ((kk : Int) < 0) = false := decide_eq_false (by omega)
              replace hL := Lib.hid hL
              replace hx := Lib.hid hx
              replace hpq := Lib.hid hpq
              clear hrel0 hpr hnone
              go_wp2_with fail
              refine (hl1.out wr hBr).mono ?_
              rintro e wA ⟨rfl, bA⟩
              have hA := hBr.trans (bA.mono hBr.size)
              clear s0 s1' s2
              go_wp2_with fail
              refine (hl2.out wA hA).mono ?_
              rintro e wB ⟨rfl, bB⟩
              have hB := hA.trans (bB.mono hA.size)
              go_wp2_with fail
              refine (hpq.out wB).mono ?_
              rintro e wC ⟨rfl, bC⟩
              have hy := Lib.hid (hx.out wC ((bA.trans (bB.mono bA.size)).trans (bC.mono (bA.trans (bB.mono bA.size)).size)))
              clear hx
              go_wp2_with fail
              exact ⟨hy.out, by simp [intOf]; omega⟩
      · obtain rfl : n = R.lines.length := by omega
        have hkI : decide ((R.lines.length : Int) < (R.lines.length : Int)) = false := decide_eq_false (by omega)
        have hkN : decide (R.lines.length < R.lines.length) = false := decide_eq_false (by omega)
        have hx := Lib.hid (hfin2.out a c' wr (hBw.out.trans (hBr.mono hWw)) (by unfold possB; rw [hps, decide_eq_true hm.out]; rfl) hown (fun j hj => Nat.le_trans hWw (hfr j hj)))
        clear hown hBr hps hfr
        have hke : (ksL R ws).length = (ksTo R ws R.lines.length).length := rfl
        rw [hke] at hx
        replace hke := Lib.hid hke
        go_wp2_with fail
        exact hx.out
  · have hne : (((m : Int) * 64) == ((R.lines.length : Int) * 64)) = false := beq_eq_false_iff_ne.2 (by omega)
    have hne2 : (((m : Int) * 64) != ((R.lines.length : Int) * 64)) = true := by rw [bne, hne]; rfl
    have hx := Lib.hid (hfin.out w1 hBw.out (poss_len (by rw [hm.out]; omega)))
    go_wp2_with fail
    exact hx.out
end Go.Proofs.Ytjmdibgncaljaaa.Dev

namespace Go.Proofs.Ytjmdibgncaljaaa.Dev
open Go.RowKit Go.Maps Go.BigFrame
variable {w : World} {F : Own} {o T : Nat} {R : Dv} {L : Lay}
theorem find_bool (hok : R.Ok T) {pv lv hv : Value} (hs : SetSt w R pv lv hv) (ws : List Nat) (m : Nat) (hm : ws.length = m * 8) (hm2 : m ≤ 5000) (hw : ∀ x ∈ ws, x < 18446744073709551616) :
    Calls Try.prog 57 #[.agg #[pv, lv, hv], .agg #[.string (strOf (bytesL ws))]] w fun e w' => ∃ s, e = .returned (.tuple #[s, .bool (possB R ws)]) ∧ Below w.heap.size w w' := by
  refine (find_any hok hs ws m hm hm2 hw).mono fun e w' h => ?_
  unfold FindPost at h
  cases hp : possB R ws with
  | true => rw [if_pos hp] at h; obtain ⟨a, c, rfl, _, h2, _⟩ := h; exact ⟨_, rfl, h2⟩
  | false => rw [if_neg (by rw [hp]; decide)] at h; obtain ⟨rfl, h2⟩ := h; exact ⟨_, rfl, h2⟩
set_option maxHeartbeats 2000000 in
set_option maxRecDepth 100000 in
theorem possible_any (h : DevSt w F o L T R) (ws : List Nat) (m : Nat) (hm : ws.length = m * 8) (hm2 : m ≤ 5000) (hw : ∀ x ∈ ws, x < 18446744073709551616) :
    Calls Try.prog 16 #[.pointer (some ⟨L.g, 0, none⟩), .agg #[.string (strOf (bytesL ws))]] w fun e w' => e = .returned (.bool (possB R ws)) ∧ Below w.heap.size w w' := by
  generalize hpost : (fun (e : Ending) w' => e = .returned (.bool (possB R ws)) ∧ Below w.heap.size w w') = post
  have hB0 := (Below.refl _ w).alloc (Nat.le_refl _) (.cells #[.string (strOf (bytesL ws))] 53)
  have hI0 := (Has.new w [.string (strOf (bytesL ws))] 53).cell (o := 0) rfl
  obtain ⟨W0, hW0⟩ : ∃ W0, W0 = w.alloc (.cells #[.string (strOf (bytesL ws))] 53) := ⟨_, rfl⟩
  rw [← hW0] at hB0
  rw [show w.alloc (Obj.cells [Value.string (strOf (bytesL ws))].toArray 53) = W0 from hW0.symm] at hI0
  have hD0 := h.other (o' := o + 1) (Dstep.below (F := F) hB0) (by omega)
  have hex := fun wx (hb : Below W0.heap.size W0 wx) => examine_any (hD0.other (o' := o + 1) (Dstep.below (F := F) hb) (by omega))
  have hfd := fun wx pv lv hv (hs : SetSt wx R pv lv hv) => find_bool h.ok hs ws m hm hm2 hw
  have hI := fun wx (hb : Below W0.heap.size W0 wx) => (hb.cell (World.block_lt_of_cell? _ _ hI0)).trans hI0
  generalize strOf (bytesL ws) = st at *
  have kB : Below W0.heap.size W0 W0 := Below.refl _ _
  have hfin : ∀ wx, Below W0.heap.size W0 wx → post (.returned (.bool (possB R ws))) wx := fun wx hb => by rw [← hpost]; exact ⟨rfl, hB0.trans (hb.mono hB0.size)⟩
  generalize possB R ws = pb at *
  replace hex := Lib.hid hex
  replace hfd := Lib.hid hfd
  replace hI := Lib.hid hI
  replace hW0 := Lib.hid hW0
  replace hfin := Lib.hid hfin
  replace hpost := Lib.hid hpost
  clear hI0 hB0 hD0 h hw hm
  go_enter Try.func16, Try.ntmps16
  go_wp2_with fail
  rw [← hW0.out]
  refine wp_region_call2 1 3 [] [4] (C0 := fun w' => w' = W0.drew) (C1 := fun v w' => ∃ pv lv hv, v = .agg #[pv, lv, hv] ∧ SetSt w' R pv lv hv ∧ Below W0.heap.size W0 w') (C2 := fun v u w' => (∃ s, u = .tuple #[s, .bool pb]) ∧ Below W0.heap.size W0 w') (by kernel_rfl) (by kernel_rfl) (by decide) (by decide) (by kernel_rfl) (by kernel_rfl) (by kernel_rfl) rfl (fun wx hx => ?_) (fun v wx hx => ?_) (fun v u hx => ?_)
  · obtain ⟨e, w', pv, lv, hv, _, h1, h2⟩ := Calls.ex (hex.out wx (by rw [hx]; exact Fr.drew kB))
    exact ⟨_, w', pv, lv, hv, rfl, h1, Fr.step (by rw [hx]; exact Fr.drew kB) h2⟩
  · obtain ⟨pv, lv, hv, rfl, h1, h2⟩ := hx
    obtain ⟨e, w', s, _, h3⟩ := Calls.ex (hfd.out wx _ _ _ h1)
    exact ⟨_, w', ⟨s, rfl⟩, Fr.step h2 h3⟩
  · obtain ⟨w', ⟨s, rfl⟩, _⟩ := hx
    have cI0 : ∀ wx, clsAt (cls2 (fun w' => w' = W0.drew) (fun v w' => ∃ pv lv hv, v = .agg #[pv, lv, hv] ∧ SetSt w' R pv lv hv ∧ Below W0.heap.size W0 w') (fun v u w' => (∃ s, u = .tuple #[s, .bool pb]) ∧ Below W0.heap.size W0 w')) [v, .tuple #[s, .bool pb]] 0 wx → wx.cell? ⟨w.heap.size, 0, none⟩ = some (.string st) := fun wx hx => hI.out wx (by
      rcases cls2_at0 hx with h | ⟨_, _, _, _, _, h⟩ | ⟨_, h⟩
      · rw [h]; exact Fr.drew kB
      · exact h
      · exact h)
    replace cI0 := Lib.hid cI0
    refine lex_chunk 0 1 _ _ _ (fun _ _ => Nat.zero_le _) (by kernel_rfl) (fun j hj => by unfold rk2; rw [if_neg (by omega), if_neg (by omega)]) (by decide) ?_
    simp only [List.take_succ_cons, List.take_zero, List.drop_succ_cons, List.drop_zero]
    repeat (first | go_big_quiet_skip | (go_big_quiet_want; go_big_quiet_op; first | go_big_quiet_on | (refine ⟨_, fun _ _ => rfl, ?_⟩; go_big_quiet_on)))
    refine wpQuiet_nil ?_
    refine lex_call (r := 0) (v := v) rfl (by go_simp; exact rfl) rfl (by kernel_rfl) (fun wx hx => ?_) ?_
    · replace hx : wx = W0.drew := hx
      refine callUpon_mk (f := 51) (args := #[.pointer (some ⟨L.g, 0, none⟩)]) (by simp [go_sem]) ?_
      exact (hex.out wx (by rw [hx]; exact Fr.drew kB)).mono fun e w'' ⟨pv, lv, hv, he, h1, h2⟩ => ⟨_, he, pv, lv, hv, rfl, h1, Fr.step (by rw [hx]; exact Fr.drew kB) h2⟩
    refine lex_chunk 0 1 _ _ _ (fun _ _ => Nat.zero_le _) (by kernel_rfl) (fun j hj => by unfold rk2; rw [if_neg (by omega), if_neg (by omega)]) (by decide) ?_
    simp only [List.take_succ_cons, List.take_zero, List.drop_succ_cons, List.drop_zero]
    go_big_quiet_want
    go_big_quiet_op
    refine ⟨.agg #[.string st], fun wx hx => by simp [go_sem, cI0.out wx hx], ?_⟩
    go_big_quiet_on
    refine wpQuiet_nil ?_
    refine lex_call (r := 1) (v := .tuple #[s, .bool pb]) rfl (by go_simp; exact rfl) rfl (by kernel_rfl) (fun wx hx => ?_) ?_
    · obtain ⟨pv, lv, hv, rfl, h1, h2⟩ : ∃ pv lv hv, v = .agg #[pv, lv, hv] ∧ SetSt wx R pv lv hv ∧ Below W0.heap.size W0 wx := hx
      refine callUpon_mk (f := 57) (args := #[.agg #[pv, lv, hv], .agg #[.string st]]) (by simp [go_sem]) ?_
      exact (hfd.out wx _ _ _ h1).mono fun e w'' ⟨s', he, h3⟩ => ⟨_, he, ⟨s', rfl⟩, Fr.step h2 h3⟩
    refine lex_chunk 0 5 _ _ _ (fun _ _ => Nat.zero_le _) (by kernel_rfl) (fun j hj => by unfold rk2; rw [if_neg (by omega), if_neg (by omega)]) (by decide) ?_
    simp only [List.take_succ_cons, List.take_zero, List.drop_succ_cons, List.drop_zero]
    repeat (first | go_big_quiet_skip | (go_big_quiet_want; go_big_quiet_op; first | go_big_quiet_on | (refine ⟨_, fun _ _ => rfl, ?_⟩; go_big_quiet_on)))
    refine wpQuiet_nil ?_
    intro wz hz
    have hx := Lib.hid (hfin.out wz hz.2)
    clear hz cI0 hI
    simp only [Exit.then]
    go_wp2_with fail
    exact hx.out
end Go.Proofs.Ytjmdibgncaljaaa.Dev
