/- Programs: dPut; Image.Word. Image.Word. -/
import Derived.Test.YtjmdibgncaljaaaK35
import Derived.Test.YtjmdibgncaljaaaH0
import Derived.IntWalk
namespace Go.Proofs.Ytjmdibgncaljaaa
open Go.RowKit
theorem foldA_len (l : List (Nat × Nat)) : ∀ ws : List Nat, (l.foldl Dev.setA ws).length = ws.length := by
  induction l with
  | nil => exact fun ws => rfl
  | cons p l ih => intro ws; rw [List.foldl_cons, ih]; simp [Dev.setA]
def wcs (ws : List (Nat × Nat)) : List Value := ws.flatMap fun p => [.int .u64 (p.1 : Int), .int .u64 (p.2 : Int)]
theorem wcs_get : ∀ (ws : List (Nat × Nat)) (i : Nat) (p : Nat × Nat), ws[i]? = some p → (wcs ws)[i * 2]? = some (.int .u64 (p.1 : Int)) ∧ (wcs ws)[i * 2 + 1]? = some (.int .u64 (p.2 : Int))
  | q :: ws, 0, p, h => by simp at h; subst h; exact ⟨rfl, rfl⟩
  | q :: ws, i + 1, p, h => by
    obtain ⟨h1, h2⟩ := wcs_get ws i p (by simpa using h)
    have e : wcs (q :: ws) = [.int .u64 (q.1 : Int), .int .u64 (q.2 : Int)] ++ wcs ws := by simp [wcs]
    rw [e]
    constructor
    · rw [List.getElem?_append_right (by simp; omega), ← h1]; congr 1; simp; omega
    · rw [List.getElem?_append_right (by simp; omega), ← h2]; congr 1; simp; omega
  | [], _, _, h => by simp at h
/-- An image of 32 words. -/
abbrev imgV (ws : List Nat) : Value := .agg #[.string (Dev.strOf (Dev.bytesL ws))]
set_option maxHeartbeats 4000000 in
set_option maxRecDepth 100000 in
theorem dput_any (w : World) (ws : List Nat) (hm : ws.length = 32) (a : Option Addr) (c : Nat) (l : List (Nat × Nat)) (hr : Rd w (.slice a l.length c) l.length (wcs l)) (hc : l.length ≤ c) (k : Nat) (hk : k ≤ l.length) (hl : l.length ≤ 1000)
    (hw : ∀ p ∈ l, p.1 % 8 = 0 ∧ p.1 < 256 ∧ p.2 < 18446744073709551616) :
    Calls Try.prog 34 #[imgV ws, .slice a l.length c, .int .i64 (k : Int)] w fun e w' => e = .returned (imgV ((l.take k).foldl Dev.setA ws)) ∧ Below w.heap.size w w' := by
  generalize hpost : (fun (e : Ending) w' => e = .returned (imgV ((l.take k).foldl Dev.setA ws)) ∧ Below w.heap.size w w') = post
  replace hpost := Lib.hid hpost
  obtain ⟨w0, hw0⟩ : ∃ w0, w0 = (w.alloc (.cells #[.string (Dev.strOf (Dev.bytesL ws))] 53)).alloc (.cells #[.string ⟨#[]⟩] 53) := ⟨_, rfl⟩
  have hB0 : Below w.heap.size w w0 := by rw [hw0]; exact ((Below.refl _ _).alloc (Nat.le_refl _) _).alloc (by simp) _
  have hI0 : Has w0 w.heap.size [.string (Dev.strOf (Dev.bytesL ws))] 53 := by rw [hw0]; exact (Has.new w [.string (Dev.strOf (Dev.bytesL ws))] 53).alloc _
  have hR0 : Has w0 (w.heap.size + 1) [.string ⟨#[]⟩] 53 := by
    have := Has.new (w.alloc (.cells #[.string (Dev.strOf (Dev.bytesL ws))] 53)) [.string ⟨#[]⟩] 53
    rw [World.size_alloc] at this
    rw [hw0]; exact this
  have hkc : k ≤ c := by omega
  have hkcI : (k : Int) ≤ (c : Int) := by omega
  have hk0I : (0 : Int) ≤ (k : Int) := by omega
  replace hw0 := Lib.hid hw0
  go_enter Try.func34, Try.ntmps34
  go_wp2_with fail
  rw [show (w.alloc (.cells #[.string (Dev.strOf (Dev.bytesL ws))] 53)).alloc (.cells #[.string ⟨#[]⟩] 53) = w0 from hw0.out.symm]
  go_loopw [13] (fun i wr => ∃ (j : Nat), j ≤ k ∧ i = .int .i64 (j : Int) ∧ Has wr w.heap.size [.string (Dev.strOf (Dev.bytesL ((l.take j).foldl Dev.setA ws)))] 53 ∧ Has wr (w.heap.size + 1) [.string ⟨#[]⟩] 53 ∧ Below w.heap.size w wr) (fun i _ => k - (intOf i).toNat)
  case atStart => exact ⟨0, Nat.zero_le _, rfl, hI0, hR0, hB0⟩
  case round =>
    clear hI0 hR0 hB0
    obtain ⟨j, hj, rfl, hI, hR, hB⟩ := hrel
    have hlenj : ((l.take j).foldl Dev.setA ws).length = 32 := by rw [foldA_len, hm]
    by_cases hlt : j < k
    · have hlI : (j : Int) < (k : Int) := by omega
      obtain ⟨bl, ol, cl, ea, fa⟩ := (hr.kept hB).cells (by omega)
      simp only [Value.slice.injEq, true_and] at ea
      obtain ⟨rfl, hcp⟩ := ea
      replace hcp := Lib.hid hcp
      have hat := Dev.get_of_lt ((0, 0) : Nat × Nat) (show j < l.length by omega)
      obtain ⟨hp1, hp2, hp3⟩ := hw _ (List.mem_of_getElem? hat)
      obtain ⟨g0, g1⟩ := wcs_get l j _ hat
      have htk : (l.take (j + 1)).foldl Dev.setA ws = Dev.setA ((l.take j).foldl Dev.setA ws) (l.getD j (0, 0)) := by
        rw [take_getD l j (0, 0) (by omega), List.foldl_append]; rfl
      obtain ⟨⟨off, v⟩, hp⟩ : ∃ p, p = l.getD j (0, 0) := ⟨_, rfl⟩
      rw [← hp] at hat hp1 hp2 hp3 g0 g1 htk
      simp only at hp1 hp2 hp3 g0 g1
      have c0 : wr.cell? ⟨bl, ol + j * 2, none⟩ = some (.int .u64 (off : Int)) := fa _ _ g0
      have c1 : wr.cell? ⟨bl, ol + j * 2 + 1, none⟩ = some (.int .u64 (v : Int)) := fa _ _ g1
      generalize (l.take j).foldl Dev.setA ws = wj at *
      obtain ⟨wb, hwb⟩ : ∃ wb, wb = wr.alloc (.cells #[.int .u64 (off : Int), .int .u64 (v : Int)] 133) := ⟨_, rfl⟩
      have hBw : Below wr.heap.size wr wb := by rw [hwb]; exact (Below.refl _ _).alloc (Nat.le_refl _) _
      have hIb := hI.only (Only.of_below hBw) (Nat.not_le.2 hI.lt)
      have hRb := hR.only (Only.of_below hBw) (Nat.not_le.2 hR.lt)
      have hBb := hB.trans (hBw.mono hB.size)
      have hwi := Dev.with_any wb wj 4 off v (by omega) (by omega) hp1 (by omega) hp3
      have cI := hIb.cell (o := 0) rfl
      rw [hwb] at cI
      replace hwi := Lib.hid hwi
      replace hwb := Lib.hid hwb
      replace hp := Lib.hid hp
      replace hat := Lib.hid hat
      replace htk := Lib.hid htk
      clear fa hI hR hB hBw g0 g1
      go_wp2_with fail
      rw [show wr.alloc (.cells #[.int .u64 (off : Int), .int .u64 (v : Int)] 133) = wb from hwb.out.symm]
      refine hwi.out.mono ?_
      rintro e w2 ⟨rfl, hB2⟩
      have hI2 := hIb.only (Only.of_below hB2) (Nat.not_le.2 hIb.lt)
      have hR2 := hRb.only (Only.of_below hB2) (Nat.not_le.2 hRb.lt)
      have hBB := hBb.trans (hB2.mono hBb.size)
      have c2 := hI2.cell (o := 0) rfl
      have f2 := hI2.free 0
      have hrel' := Lib.hid (show Has (w2.setCell ⟨w.heap.size, 0, none⟩ (.string (Dev.strOf (Dev.bytesL (Dev.setA wj (off, v)))))) w.heap.size [.string (Dev.strOf (Dev.bytesL (Dev.setA wj (off, v))))] 53 ∧ Has (w2.setCell ⟨w.heap.size, 0, none⟩ (.string (Dev.strOf (Dev.bytesL (Dev.setA wj (off, v)))))) (w.heap.size + 1) [.string ⟨#[]⟩] 53 ∧
        Below w.heap.size w (w2.setCell ⟨w.heap.size, 0, none⟩ (.string (Dev.strOf (Dev.bytesL (Dev.setA wj (off, v)))))) from ⟨hI2.set 0 _, hR2.set_ne (a := ⟨w.heap.size, 0, none⟩) (by show w.heap.size + 1 ≠ w.heap.size; omega) _, hBB.setCell (p := ⟨w.heap.size, 0, none⟩) (Nat.le_refl _) _⟩)
      rw [← htk.out] at hrel'
      clear hI2 hR2 hBB hIb hRb hBb hB2 hwi c0 c1
      have htk2 := htk
      go_wp2_with fail
      rw [← htk2.out]
      exact ⟨⟨j + 1, by omega, by go_num, hrel'.out⟩, by simp [intOf]; omega⟩
    · obtain rfl : j = k := by omega
      have hlI : ¬ (j : Int) < (j : Int) := by omega
      have cI := hI.cell (o := 0) rfl
      have cR := hR.cell (o := 0) rfl
      have fR := hR.free 0
      have hfin : post (.returned (imgV ((l.take j).foldl Dev.setA ws))) (wr.setCell ⟨w.heap.size + 1, 0, none⟩ (.string (Dev.strOf (Dev.bytesL ((l.take j).foldl Dev.setA ws))))) := by
        rw [← hpost.out]; exact ⟨rfl, hB.setCell (p := ⟨w.heap.size + 1, 0, none⟩) (by show w.heap.size ≤ w.heap.size + 1; omega) _⟩
      have cF := (hR.set 0 (.string (Dev.strOf (Dev.bytesL ((l.take j).foldl Dev.setA ws))))).cell (o := 0) rfl
      generalize (l.take j).foldl Dev.setA ws = wj at *
      replace hfin := Lib.hid hfin
      replace cF := Lib.hid cF
      clear hI hR hB
      go_wp2_with fail
      exact bodyPost_ret (v := imgV wj) (by simp [results, Try.results34, go_sem, cF.out]) rfl hfin.out
end Go.Proofs.Ytjmdibgncaljaaa

namespace Go.Proofs.Ytjmdibgncaljaaa
open Go.RowKit
theorem shl_run (b k : Nat) (hk : k < 8) (w : World) : (Op.shift BinOp.shl IntKind.u64 (b : Int) IntKind.u64 (8 * (k : Int))).run Try.prog w = .ok (.int .u64 (IntKind.u64.wrap ((b : Int) * 2 ^ (k * 8)))) w := by
  have h : k = 0 ∨ k = 1 ∨ k = 2 ∨ k = 3 ∨ k = 4 ∨ k = 5 ∨ k = 6 ∨ k = 7 := by omega
  rcases h with rfl | rfl | rfl | rfl | rfl | rfl | rfl | rfl <;> simp [Op.shift, go_sem]
theorem str_at (bs : List Nat) (i : Nat) (h : i < (Dev.strOf bs).size) (b : Nat) (hb : bs[i]? = some b) (hb2 : b < 256 := by first | assumption | (apply Nat.mod_lt; decide)) : ((Dev.strOf bs)[i]'h).toNat = b := by
  have h1 : ((bs.map UInt8.ofNat).toArray)[i]? = some (UInt8.ofNat b) := by simp [hb]
  have h2 : (Dev.strOf bs)[i]'h = UInt8.ofNat b := by
    have := (Array.getElem?_eq_some_iff.1 h1).2
    exact this
  rw [h2]
  simp [UInt8.toNat_ofNat, Nat.mod_eq_of_lt hb2]
set_option maxHeartbeats 4000000 in
set_option maxRecDepth 100000 in
theorem iwordi_any (w : World) (ws : List Nat) (off : Nat) (h8 : off % 8 = 0) (ho : off < 256) (hm : ws.length = 32) (hw : ∀ x ∈ ws, x < 18446744073709551616) :
    Calls Try.prog 81 #[imgV ws, .int .i64 (off : Int)] w fun e w' => e = .returned (.int .u64 ((ws.getD (off / 8) 0 : Nat) : Int)) ∧ Below w.heap.size w w' := by
  have hbl : (Dev.bytesL ws).length = 256 := by rw [Dev.bytesL_len]; omega
  have hsz := Dev.strOf_size (Dev.bytesL ws)
  rw [hbl] at hsz
  have hb : ∀ k, k < 8 → (Dev.bytesL ws)[off + k]? = some (ws.getD (off / 8) 0 / 2 ^ (k * 8) % 256) := fun k hk => by
    rw [Dev.bytesL_get ws (off + k) (by omega)]
    congr 4 <;> omega
  have hx := hw (ws.getD (off / 8) 0) (Dev.mem_getD 0 (by omega))
  generalize ws.getD (off / 8) 0 = x at *
  have himg : imgV ws = .agg #[.string (Dev.strOf (Dev.bytesL ws))] := rfl
  rw [himg]
  clear himg
  generalize Dev.bytesL ws = bs at *
  have hall : Dev.partW x 8 = x := by unfold Dev.partW; rw [Nat.mod_eq_of_lt (by simpa using hx)]
  have hB : Below w.heap.size w (w.alloc (.cells #[.string (Dev.strOf bs)] 53)) := (Below.refl _ _).alloc (Nat.le_refl _) _
  have c0 := (Has.new w [.string (Dev.strOf bs)] 53).cell (o := 0) rfl
  have h256I : ∀ k : Nat, k < 8 → decide ((off : Int) + (k : Int) < 256) = true := fun k hk => decide_eq_true (by omega)
  obtain ⟨N8, hN8⟩ : ∃ N8 : Nat, N8 = 8 := ⟨8, rfl⟩
  replace hb := Lib.hid hb
  go_enter Try.func81, Try.ntmps81
  go_wp2_with fail
  go_loopw [5, 7] (fun a i wr => ∃ (k : Nat), k ≤ 8 ∧ i = .int .i64 (k : Int) ∧ a = .int .u64 ((Dev.partW x k : Nat) : Int) ∧ w.alloc (.cells #[.string (Dev.strOf bs)] 53) = wr) (fun _ i _ => 8 - (intOf i).toNat)
  case atStart => exact ⟨0, by omega, rfl, by simp [Dev.partW, Nat.mod_one], rfl⟩
  case round =>
    obtain ⟨k, hk, rfl, rfl, rfl⟩ := hrel
    by_cases hlt : k < 8
    · have hd := decide_eq_true (show (k : Int) < 8 by omega)
      have hbk := hb.out k hlt
      have hps := Dev.partW_succ x k hlt
      have hpl : Dev.partW x k < 256 ^ k := by unfold Dev.partW; rw [Nat.min_eq_right (by omega)]; exact Nat.mod_lt _ (Nat.pow_pos (by omega))
      have hor := Dev.or_wrap (Dev.partW x k) (x / 2 ^ (k * 8) % 256) k hpl (Nat.mod_lt _ (by decide)) hlt
      rw [← hps] at hor
      clear hps
      have hb2 : x / 2 ^ (k * 8) % 256 < 256 := Nat.mod_lt _ (by decide)
      generalize x / 2 ^ (k * 8) % 256 = b at *
      obtain ⟨p1, hp1⟩ : ∃ p1, p1 = Dev.partW x (k + 1) := ⟨_, rfl⟩
      rw [← hp1] at hor
      replace hp1 := Lib.hid hp1
      generalize Dev.partW x k = p0 at *
      replace hlt := Lib.hid hlt
      replace hk := Lib.hid hk
      have hlt' := hlt.out
      have hnat : ((off : Int) + (k : Int)).toNat = off + k := by omega
      have hin : off + k < (Dev.strOf bs).size := by rw [hsz]; omega
      have hidx : ((Dev.strOf bs)[off + k]'hin).toNat = b := str_at bs (off + k) hin b hbk
      have hwo := Lib.hid (show wrap64 ((off : Int) + (k : Int)) = (off : Int) + (k : Int) by unfold wrap64; omega)
      have hge : (0 : Int) ≤ (off : Int) + (k : Int) := by omega
      have hle : (off : Int) + (k : Int) < ((Dev.strOf bs).size : Int) := by rw [hsz]; omega
      have hw8 := Lib.hid (show wrap64 (8 * (k : Int)) = 8 * (k : Int) by unfold wrap64; omega)
      have hkB : k ≤ 1000 := by omega
      have hsh := fun w => shl_run b k hlt.out w
      clear hlt' hwo hw8 hge hle
      clear hpl
      go_wp2_with fail
      exact ⟨⟨k + 1, by have := hlt.out; omega, rfl, by rw [hp1.out], trivial⟩, by have := hlt.out; simp [intOf]; omega⟩
    · obtain rfl : k = 8 := by omega
      rw [hall]
      go_wp2_with fail
      go_ret
      exact ⟨rfl, hB⟩
set_option maxHeartbeats 1000000 in
set_option maxRecDepth 100000 in
theorem iword_any (w : World) (ws : List Nat) (off : Nat) (h8 : off % 8 = 0) (ho : off < 256) (hm : ws.length = 32) (hw : ∀ x ∈ ws, x < 18446744073709551616) :
    Calls Try.prog 35 #[imgV ws, .int .u64 (off : Int)] w fun e w' => e = .returned (.tuple #[.int .u64 ((ws.getD (off / 8) 0 : Nat) : Int), .int .i64 0]) ∧ Below w.heap.size w w' := by
  generalize hpost : (fun (e : Ending) w' => e = .returned (.tuple #[.int .u64 ((ws.getD (off / 8) 0 : Nat) : Int), .int .i64 0]) ∧ Below w.heap.size w w') = post
  have hbl : (Dev.bytesL ws).length = 256 := by rw [Dev.bytesL_len]; omega
  have hck := fun wx => Dev.icheck_any wx (Dev.bytesL ws) off h8 (by omega) (by omega)
  have hwd := fun wx => iwordi_any wx ws off h8 ho hm hw
  obtain ⟨w0, hw0⟩ : ∃ w0, w0 = w.alloc (.cells #[.string (Dev.strOf (Dev.bytesL ws))] 53) := ⟨_, rfl⟩
  have hB0 : Below w.heap.size w w0 := by rw [hw0]; exact (Below.refl _ _).alloc (Nat.le_refl _) _
  have hI0 : Has w0 w.heap.size [.string (Dev.strOf (Dev.bytesL ws))] 53 := by rw [hw0]; exact Has.new w [.string (Dev.strOf (Dev.bytesL ws))] 53
  generalize ws.getD (off / 8) 0 = x at *
  replace hpost := Lib.hid hpost
  have himg : imgV ws = .agg #[.string (Dev.strOf (Dev.bytesL ws))] := rfl
  rw [himg] at hwd
  rw [himg]
  clear himg
  generalize Dev.strOf (Dev.bytesL ws) = st at *
  replace hck := Lib.hid hck
  replace hwd := Lib.hid hwd
  replace hw0 := Lib.hid hw0
  go_enter Try.func35, Try.ntmps35
  go_wp2_with fail
  rw [show w.alloc (.cells #[.string st] 53) = w0 from hw0.out.symm]
  refine (hck.out _).mono ?_
  rintro e w1 ⟨rfl, hB1⟩
  have hI1 := (hI0.only (Only.of_below hB1) (Nat.not_le.2 hI0.lt)).cell (o := 0) rfl
  have hBB := hB0.trans (hB1.mono hB0.size)
  go_wp2_with fail
  refine (hwd.out _).mono ?_
  rintro e w2 ⟨rfl, hB2⟩
  have hfin : post (.returned (.tuple #[.int .u64 (x : Int), .int .i64 0])) w2 := by rw [← hpost.out]; exact ⟨rfl, hBB.trans (hB2.mono hBB.size)⟩
  replace hfin := Lib.hid hfin
  go_wp2_with fail
  first | exact hfin.out | (go_ret2; exact hfin.out)
end Go.Proofs.Ytjmdibgncaljaaa
