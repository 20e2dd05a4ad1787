/- The reference's From. -/
import Derived.Test.YtkmhanjddkplbaaH1
import Derived.Test.YtkmhanjddkplbaaE4
import Derived.Test.YtkmhanjddkplbaaE7
namespace Go.Proofs.Ytkmhanjddkplbaa
open Go.RowKit Go.Maps
variable {w : World} {F : Own} {o o' h T : Nat} {R : Dv} {L : Lay}

theorem lnOf_get (ws : List Nat) (i q : Nat) (hq : q < 8) : wat (lnOf ws i).base q = ws.getD (i * 8 + q) 0 := by
  unfold wat lnOf
  show ((ws.drop (i * 8)).take 8).getD q 0 = _
  rw [List.getD, List.getD, List.getElem?_take, if_pos hq, List.getElem?_drop]
theorem lnOf_set (ws : List Nat) (j x i : Nat) (h : i ≠ j / 8) : lnOf (ws.set j x) i = lnOf ws i := by
  unfold lnOf
  congr 1
  apply List.ext_getElem?
  intro q
  rw [List.getElem?_take, List.getElem?_take]
  by_cases hq : q < 8
  · rw [if_pos hq, if_pos hq, List.getElem?_drop, List.getElem?_drop, List.getElem?_set_ne (by omega)]
  · rw [if_neg hq, if_neg hq]
theorem fromP_set (n : Nat) (ws : List Nat) (j x : Nat) : fromP n (ws.set j x) = (fromP n ws).setLine (j / 8) (lnOf (ws.set j x) (j / 8)) := by
  unfold fromP Dv.setLine
  congr 1
  apply List.ext_getElem?
  intro i
  by_cases hi : i < n
  · rw [List.getElem?_map, List.getElem?_range hi]
    by_cases he : j / 8 = i
    · subst he
      rw [List.getElem?_set_self (by simpa using hi)]; rfl
    · rw [List.getElem?_set_ne he, List.getElem?_map, List.getElem?_range hi]
      show some _ = some _
      rw [lnOf_set ws j x i (Ne.symm he)]
  · rw [List.getElem?_eq_none (by simp; omega), List.getElem?_eq_none (by simp; omega)]
/-- A word is stored. -/
theorem RefSt.setWord {n : Nat} {ws : List Nat} (hr : RefSt w F o h 0 (fromP n ws)) (hl : ws.length = n * 8) {j x : Nat} (hj : j < n * 8) (hx : x < 18446744073709551616) :
    ∃ lb lc, w.cell? ⟨h, 0, none⟩ = some (.slice (some ⟨lb, 0, none⟩) n lc) ∧ w.cell? ⟨lb, j / 8 * 10 + j % 8, none⟩ = some (.int .u64 ((ws.getD j 0 : Nat) : Int)) ∧ w.frozen? ⟨lb, j / 8 * 10 + j % 8, none⟩ = false ∧ F lb = some (o, 1, 0) ∧
      RefSt (w.setCell ⟨lb, j / 8 * 10 + j % 8, none⟩ (.int .u64 (x : Int))) F o h 0 (fromP n (ws.set j x)) := by
  obtain ⟨lb, lc, ns, h1, h2, h3, h4⟩ := hr.ex
  have hi : j / 8 < (fromP n ws).lines.length := by rw [fromP_len]; omega
  have hlt : lb < w.heap.size := by obtain ⟨cs, _, x, _⟩ := h2; exact ownsRow_lt x (k := lb) rfl
  have c0 := h1.cell (refCells_lines lb lc ns (fromP n ws))
  rw [fromP_len] at c0
  have hok' : (fromP n (ws.set j x)).Ok 0 := by
    have h5 := hr.ok
    have n1 := h5.n1
    have n2 := h5.n2
    rw [fromP_len] at n1 n2
    refine fromP_ok n _ n1 n2 (by simpa using hl) ?_
    intro y hy
    rcases List.mem_or_eq_of_mem_set hy with h6 | rfl
    · obtain ⟨k, hk, rfl⟩ := List.getElem_of_mem h6
      have h7 := (h5.ln (k / 8) (by rw [fromP_len]; omega)).bv
      rw [fromP_line n ws _ (by omega)] at h7
      have h8 := lnOf_get ws (k / 8) (k % 8) (by omega)
      rw [show k / 8 * 8 + k % 8 = k by omega, getD_of 0 (List.getElem?_eq_getElem hk)] at h8
      rw [← h8]
      refine h7 _ (mem_getD 0 ?_)
      show k % 8 < ((ws.drop (k / 8 * 8)).take 8).length
      rw [List.length_take, List.length_drop]; omega
    · exact hx
  obtain ⟨cs, hv, own, hc⟩ := h2
  obtain ⟨b0, _, _, _⟩ := hc (j / 8) hi
  have hcl : cs.length = n * 10 := by have := own.1; rw [fromP_len] at this; exact this
  have c1 : w.cell? ⟨lb, j / 8 * 10 + j % 8, none⟩ = some (.int .u64 ((ws.getD j 0 : Nat) : Int)) := by
    rw [own.cellAt _ (by rw [fromP_len]; omega), b0 (j % 8) (by omega), fromP_line n ws _ (by omega), lnOf_get ws _ _ (by omega), show j / 8 * 8 + j % 8 = j by omega]
  refine ⟨lb, lc, c0, c1, own.frozenAt _, h3, ?_⟩
  rw [fromP_set] at hok' ⊢
  refine hr.line hi hok' h1 h3 h4 (Only.setAt w lb _ _) (Ext.refl _ _) hlt ⟨cs.set (j / 8 * 10 + j % 8) (.int .u64 (x : Int)), hv, ?_, fun i hil => ?_⟩
  · rw [setLine_len]; exact (own.stored _ _).1
  · rw [setLine_len, fromP_len] at hil
    obtain ⟨b, c, d, e⟩ := hc i (by rw [fromP_len]; exact hil)
    have hH : ((fromP n ws).setLine (j / 8) (lnOf (ws.set j x) (j / 8))).line i = lnOf (ws.set j x) i := by
      rw [← fromP_set, fromP_line _ _ _ hil]
    have hH0 : (fromP n ws).line i = lnOf ws i := fromP_line _ _ _ hil
    rw [hH]
    rw [hH0] at b d e
    refine ⟨fun q hq => ?_, ?_, ?_, ?_⟩
    · rw [lnOf_get _ _ _ hq]
      by_cases he : i = j / 8 ∧ q = j % 8
      · obtain ⟨rfl, rfl⟩ := he
        rw [List.getElem?_set_self (by omega), show j / 8 * 8 + j % 8 = j by omega, List.getD, List.getElem?_set_self (by omega)]; rfl
      · rw [List.getElem?_set_ne (by omega), b q hq, lnOf_get _ _ _ hq, List.getD, List.getD, List.getElem?_set_ne (by omega)]
    · rw [List.getElem?_set_ne (by omega)]; exact c
    · rw [List.getElem?_set_ne (by omega)]; exact d
    · exact e.kept (Only.setAt w lb _ _) (Ext.refl _ _) (by rintro k rfl e'; rw [h3] at e'; cases e')
def RFrR (w : World) (F : Own) (o h n : Nat) (ws : List Nat) (wr : World) : Prop := ∃ F', RefSt wr F' o h 0 (fromP n ws) ∧ Ext w F F' ∧ Below w.heap.size w wr
theorem RFrR.drew {n : Nat} {ws : List Nat} {wr : World} (hp : RFrR w F o h n ws wr) : RFrR w F o h n ws wr.drew := by
  obtain ⟨F', a, b, c⟩ := hp
  exact ⟨F', a.drewN 1, b, below_drewN c 1⟩
set_option maxHeartbeats 8000000 in
set_option maxRecDepth 100000 in
theorem rfrom_any (F : Own) (o : Nat) (hF : ∀ k r, k < w.heap.size → F k ≠ some (o, r)) {a : Option Addr} {c : Nat} {ws : List Nat} (hb : BytesIn w a c (bytesL ws)) (n : Nat) (hl : ws.length = n * 8) (h1 : 1 ≤ n) (h2 : n ≤ 4096) (hw : ∀ x ∈ ws, x < 18446744073709551616) :
    Calls Try.prog 19 #[.slice a (bytesL ws).length c] w (RNewPost w F o (fromP n ws)) := by
  generalize hpost : RNewPost w F o (fromP n ws) = post
  have hbl : (bytesL ws).length = n * 64 := by rw [bytesL_len]; omega
  have hr := hb.r
  rw [hbl] at hr
  rw [hbl]
  have hnew : Calls Try.prog 16 #[.int .i64 (n : Int)] w (fun e w' => ∃ h, e = .returned (.pointer (some ⟨h, 0, none⟩)) ∧ ∃ F', RefSt w' F' o h 0 (fromP n (partL ws 0)) ∧ Ext w F F' ∧ Below w.heap.size w w') :=
    (rnew_any w F o n h1 h2).mono fun e w' ⟨h, F', he, hs, hx, hB⟩ => ⟨h, he, F', by rw [partL_zero, hl, newP_from]; exact hs, hx, hB⟩
  have hfin : ∀ wr h, (∃ F', RefSt wr F' o h 0 (fromP n ws) ∧ Ext w F F' ∧ Below w.heap.size w wr) → post (.returned (.pointer (some ⟨h, 0, none⟩))) wr := by
    rintro wr h ⟨F', hs, hx, hB⟩
    rw [← hpost]; exact ⟨h, F', rfl, hs, hx, hB⟩
  replace hfin := Lib.hid hfin
  replace hnew := Lib.hid hnew
  replace hbl := Lib.hid hbl
  replace hr := Lib.hid hr
  replace hl := Lib.hid hl
  have hn1 : (1 : Int) ≤ (n : Int) := by omega
  have hn2 : (n : Int) ≤ 4096 := by omega
  clear hb hpost
  go_enter Try.func19, Try.ntmps19
  go_wp2_with fail
  refine hnew.out.mono ?_
  rintro e w1 ⟨h, rfl, hs1⟩
  clear hnew
  replace hs1 := Lib.hid hs1
  go_wp2_with fail
  go_loopw [4] (fun i wr => ∃ k : Nat, k ≤ n * 64 ∧ i = .int .i64 k ∧ RFrR w F o h n (partL ws k) wr) (fun i _ => n * 64 - (intOf i).toNat)
  case atStart =>
    exact ⟨0, Nat.zero_le _, rfl, hs1.out⟩
  case round =>
    clear hs1
    obtain ⟨k, hk, rfl, F', hS, hX, hB⟩ := hrel
    by_cases hlt : k < n * 64
    · have hkI : (k : Int) < (n : Int) * 64 := by omega
      have hk0 : (0 : Int) ≤ (k : Int) := by omega
      have hk64 : ((k / 64 : Nat) : Int) < (n : Int) := by omega
      have hkl : k < ws.length * 8 := by rw [hl.out]; omega
      obtain ⟨bl, ol, cl, ea, fa⟩ := (hr.out.kept hB).cells (by omega)
      simp only [Value.slice.injEq, true_and] at ea
      obtain ⟨rfl, e1⟩ := ea
      replace e1 := Lib.hid e1
      have c0 : wr.cell? ⟨bl, ol + k, none⟩ = some (.int .u8 ((byteAt ws k : Nat) : Int)) := fa _ _ (u8s_get _ k _ (bytesL_get ws k hkl))
      have hb256 := byteAt_lt ws k
      have hat := partL_at ws k hkl
      have hsucc := partL_succ ws k hkl
      have hxlt : (partL ws k).getD (k / 8) 0 + byteAt ws k * 2 ^ (k % 8 * 8) < 18446744073709551616 := by
        have := partL_lt ws (k + 1) ((partL ws k).getD (k / 8) 0 + byteAt ws k * 2 ^ (k % 8 * 8)) (by rw [hsucc]; exact List.mem_set (by rw [partL_len]; omega) _)
        exact this
      obtain ⟨lb, lc, d0, d1, d2, d3, hS2⟩ := hS.setWord (by rw [partL_len, hl.out]) (j := k / 8) (by omega) hxlt
      rw [← hsucc, show k / 8 / 8 = k / 64 by omega, show k / 8 % 8 = k % 64 / 8 by omega] at hS2
      rw [show k / 8 / 8 = k / 64 by omega, show k / 8 % 8 = k % 64 / 8 by omega] at d1 d2
      have hlb : w.heap.size ≤ lb := by
        rcases Nat.lt_or_ge lb w.heap.size with h5 | h5
        · rw [hX lb h5] at d3; exact absurd d3 (hF lb _ h5)
        · exact h5
      have hrel : RFrR w F o h n (partL ws (k + 1)) (wr.setCell ⟨lb, k / 64 * 10 + k % 64 / 8, none⟩ (.int .u64 (((partL ws k).getD (k / 8) 0 + byteAt ws k * 2 ^ (k % 8 * 8) : Nat) : Int))) :=
        ⟨F', hS2, hX, hB.setCell (p := ⟨lb, k / 64 * 10 + k % 64 / 8, none⟩) hlb _⟩
      have hk648 : ((k % 64 / 8 : Nat) : Int) < 8 := by omega
      generalize byteAt ws k = x at *
      generalize (partL ws k).getD (k / 8) 0 = y at *
      have hsh := shl_id x (k % 8) hb256 (by omega)
      obtain ⟨q, hq⟩ : ∃ q, q = k % 8 := ⟨_, rfl⟩
      obtain ⟨sh, hs⟩ : ∃ sh, sh = k % 8 * 8 := ⟨_, rfl⟩
      obtain ⟨z, hz⟩ : ∃ z, z = x * 2 ^ (k % 8 * 8) := ⟨_, rfl⟩
      obtain ⟨v, hv⟩ : ∃ v, v = y + x * 2 ^ (k % 8 * 8) := ⟨_, rfl⟩
      have e1 : Int.tmod (k : Int) 8 = (q : Int) := by rw [Int.tmod_eq_emod_of_nonneg (by omega)]; omega
      have e2 : IntKind.i64.wrap ((q : Int) * 8) = (sh : Int) := by rw [IntWalk.i64_in _ (by omega)]; omega
      have e3 : IntKind.u64.wrap (x : Int) = (x : Int) := u64_wrap_id _ (by omega) (by omega)
      have e4 : IntKind.u64.wrap ((x : Int) * 2 ^ sh) = (z : Int) := by rw [hs, hsh, hz]; simp
      have e5 : IntKind.u64.wrap ((y : Int) + (z : Int)) = (v : Int) := by rw [u64_wrap_id _ (by omega) (by omega)]; omega
      have hs56 : sh ≤ 56 := by omega
      have hmin : min sh 64 = sh := by omega
      have hs0 : decide ((sh : Int) < 0) = false := decide_eq_false (by omega)
      rw [← hv] at hrel
      replace hrel := Lib.hid hrel
      replace hsucc := Lib.hid hsucc
      replace hF := Lib.hid hF
      replace d3 := Lib.hid d3
      replace hxlt := Lib.hid hxlt
      replace hat := Lib.hid hat
      clear hS hS2 hX hB fa hsh hq hs hz hv
      go_wp2_with fail
      refine region_tail 15 (by kernel_rfl) (by kernel_rfl) ?_
      simp only [List.take_succ_cons, List.take_zero, List.drop_succ_cons, List.drop_zero]
      repeat still_step
      refine wpStill_nil ?_
      go_wp2_with fail
      clear e1 e2 e3 e4 e5 hmin
      exact ⟨⟨k + 1, by omega, by go_num, hrel.out.drew⟩, by simp [intOf]; omega⟩
    · obtain rfl : k = n * 64 := by omega
      have e1 : partL ws (n * 64) = ws := by
        have := partL_all ws hw
        rw [hl.out, show n * 8 * 8 = n * 64 by omega] at this
        exact this
      rw [e1] at hS
      replace e1 := Lib.hid e1
      have hx := Lib.hid (hfin.out wr h ⟨F', hS, hX, hB⟩)
      clear hS hX hB
      go_wp2_with fail
      first | exact hx.out | (go_ret; exact hx.out)
end Go.Proofs.Ytkmhanjddkplbaa
