/- crashset: the reference's Possible. -/
import Derived.Test.YtikjpklbbjmioaaK31
import Derived.Test.YtikjpklbbjmioaaK27
import Derived.Test.YtikjpklbbjmioaaK13
import Derived.Test.YtikjpklbbjmioaaQRI
namespace Go.Proofs.Ytikjpklbbjmioaa
open Go.RowKit Go.Maps Go.BigFrame
variable {w : World} {F : Own} {o h T : Nat} {R : Dv} {L : Lay}
/-- One line of bytes, as a slice of them. -/
theorem line_rd {ws : List Nat} {n : Nat} {b off c c' : Nat} (hn : 8 * n + 8 ≤ ws.length) (hr : Rd w (.slice (some ⟨b, off, none⟩) (bytesL ws).length c) (bytesL ws).length (u8s (bytesL ws))) :
    Rd w (.slice (some ⟨b, off + 64 * n, none⟩) (bytesL (lineW ws n)).length c') (bytesL (lineW ws n)).length (u8s (bytesL (lineW ws n))) := by
  have hll : (lineW ws n).length = 8 := by unfold lineW; rw [List.length_take, List.length_drop]; omega
  obtain ⟨b0, o0, c0, ea, fa⟩ := hr.cells (by rw [bytesL_len]; omega)
  simp only [Value.slice.injEq, Option.some.injEq, Addr.mk.injEq, true_and, and_true] at ea
  obtain ⟨⟨rfl, rfl⟩, _⟩ := ea
  refine ⟨_, c', rfl, .inr ⟨b, off + 64 * n, rfl, fun j u hu => ?_⟩⟩
  have hj : j < 64 := by
    rcases Nat.lt_or_ge j 64 with h | h
    · exact h
    · rw [List.getElem?_eq_none (by simp [u8s, bytesL_len, hll]; omega)] at hu; cases hu
  have h1 := line_byte j hj hn
  have h2 := bytesL_get (lineW ws n) j (by omega)
  rw [u8s_get _ _ _ h2] at hu
  cases hu
  have h3 := fa _ _ (u8s_get _ _ _ h1)
  rw [Nat.add_assoc]
  exact h3
set_option maxHeartbeats 4000000 in
set_option maxRecDepth 100000 in
theorem rposs_any (hr : RefSt w F o h T R) (ws : List Nat) (m : Nat) (a : Option Addr) (c : Nat) (hm : ws.length = m * 8) (hm2 : m ≤ 5000) (hc : m * 64 ≤ c) (hc2 : c ≤ 9223372036854775807) (hw : ∀ x ∈ ws, x < 18446744073709551616)
    (hp : Rd w (.slice a (bytesL ws).length c) (bytesL ws).length (u8s (bytesL ws))) :
    Calls Try.prog 39 #[.pointer (some ⟨h, 0, none⟩), .slice a (bytesL ws).length c] w fun e w' => e = .returned (.bool (possB R ws)) ∧ Below w.heap.size w w' := by
  generalize hpost : (fun (e : Ending) w' => e = .returned (.bool (possB R ws)) ∧ Below w.heap.size w w') = post
  have hn2 := hr.ok.n2
  have hok := hr.ok
  have ht100 := hr.ok.t
  have hbl : (bytesL ws).length = m * 64 := by rw [bytesL_len]; omega
  obtain ⟨lb, lc, ns, h1, h2, h3, _⟩ := hr.ex
  have cl := h1.cell (refCells_lines lb lc ns R)
  have hlines := fun (i : Nat) (hi : i < R.lines.length) => h2.cells hi
  have hlb : 0 < R.lines.length → lb < w.heap.size := fun _ => by obtain ⟨cs, _, x, _⟩ := h2; exact ownsRow_lt x (k := lb) rfl
  have hn1 := hok.n1
  have hlb := hlb hn1
  have hfin : ∀ (v : Bool) wx, Below w.heap.size w wx → possB R ws = v → post (.returned (.bool v)) wx := fun v wx hb h1 => by rw [← hpost]; exact ⟨by rw [h1], hb⟩
  rw [hbl]
  replace hpost := Lib.hid hpost
  replace hfin := Lib.hid hfin
  replace hbl := Lib.hid hbl
  replace hm := Lib.hid hm
  clear hr h2 h3
  by_cases hml : m = R.lines.length
  · subst hml
    have hne : (((R.lines.length : Int) * 64) == (64 * (R.lines.length : Int))) = true := beq_iff_eq.2 (by omega)
    have hne2 : (((R.lines.length : Int) * 64) != (64 * (R.lines.length : Int))) = false := by rw [bne, hne]; rfl
    obtain ⟨b0, o0, c0, ea, fa⟩ := hp.cells (by rw [hbl.out]; omega)
    simp only [Value.slice.injEq, true_and] at ea
    obtain ⟨rfl, ea2⟩ := ea
    replace ea2 := Lib.hid ea2
    clear fa
    replace hp := Lib.hid hp
    go_enter Try.func39, Try.ntmps39
    go_wp2_with fail
    go_loopw [21] (fun iv wr => ∃ n : Nat, n ≤ R.lines.length ∧ iv = .int .i64 (n : Int) ∧ Below w.heap.size w wr ∧ possTo R ws n = true) (fun iv _ => R.lines.length - (intOf iv).toNat)
    case atStart => exact ⟨0, Nat.zero_le _, rfl, Below.refl _ _, rfl⟩
    case round =>
      obtain ⟨n, hn, rfl, hBr, hps⟩ := hrel
      by_cases hlt : n < R.lines.length
      · have hkI : decide ((n : Int) < (R.lines.length : Int)) = true := decide_eq_true (by omega)
        have hkN : decide (n < R.lines.length) = true := decide_eq_true hlt
        have hk0 : (0 : Int) ≤ (n : Int) := by omega
        have hnI : (n : Int) < (R.lines.length : Int) := by omega
        obtain ⟨va, vc, hlc, hrd⟩ := hlines n hlt
        obtain ⟨c0, c1, c2, c3, c4, c5, c6, c7, c8, c9⟩ := hlc.only (Only.of_below hBr) (Nat.not_le.2 hlb)
        have hrd := hrd.1.kept hBr
        have hokl := hok.ln n hlt
        have hll := lineW_len hm.out hlt
        obtain ⟨w1, hw1⟩ : ∃ w1, w1 = wr.alloc (.cells (([.int .u64 ((wat (R.line n).base 0 : Nat) : Int), .int .u64 ((wat (R.line n).base 1 : Nat) : Int), .int .u64 ((wat (R.line n).base 2 : Nat) : Int), .int .u64 ((wat (R.line n).base 3 : Nat) : Int), .int .u64 ((wat (R.line n).base 4 : Nat) : Int), .int .u64 ((wat (R.line n).base 5 : Nat) : Int), .int .u64 ((wat (R.line n).base 6 : Nat) : Int), .int .u64 ((wat (R.line n).base 7 : Nat) : Int), .slice va (R.line n).hist.length vc, .int .i64 ((R.line n).done : Int)] : List Value)).toArray 122) := ⟨_, rfl⟩
        have hB1 : Below wr.heap.size wr w1 := by rw [hw1]; exact (Below.refl _ _).alloc (Nat.le_refl _) _
        have hRow : Has w1 wr.heap.size [.int .u64 ((wat (R.line n).base 0 : Nat) : Int), .int .u64 ((wat (R.line n).base 1 : Nat) : Int), .int .u64 ((wat (R.line n).base 2 : Nat) : Int), .int .u64 ((wat (R.line n).base 3 : Nat) : Int), .int .u64 ((wat (R.line n).base 4 : Nat) : Int), .int .u64 ((wat (R.line n).base 5 : Nat) : Int), .int .u64 ((wat (R.line n).base 6 : Nat) : Int), .int .u64 ((wat (R.line n).base 7 : Nat) : Int), .slice va (R.line n).hist.length vc, .int .i64 ((R.line n).done : Int)] 122 := by rw [hw1]; exact Has.new wr [.int .u64 ((wat (R.line n).base 0 : Nat) : Int), .int .u64 ((wat (R.line n).base 1 : Nat) : Int), .int .u64 ((wat (R.line n).base 2 : Nat) : Int), .int .u64 ((wat (R.line n).base 3 : Nat) : Int), .int .u64 ((wat (R.line n).base 4 : Nat) : Int), .int .u64 ((wat (R.line n).base 5 : Nat) : Int), .int .u64 ((wat (R.line n).base 6 : Nat) : Int), .int .u64 ((wat (R.line n).base 7 : Nat) : Int), .slice va (R.line n).hist.length vc, .int .i64 ((R.line n).done : Int)] 122
        have hBw := hBr.trans (hB1.mono hBr.size)
        have hls := fun wx (hb : Below w1.heap.size w1 wx) => rleast_any (w := wx) (R.line n) (lineW ws n) va vc ((R.line n).done : Int) hokl.b hokl.bv hll (lineW_lt hw n) (by have := hokl.hl; omega) ((hrd.kept hB1).kept hb) (fun p hp => by obtain ⟨q1, q2, q3⟩ := hokl.h p hp; omega)
        have hstr := (line_rd (n := n) (c' := c - 64 * n) (by rw [hm.out]; omega) (hp.out.kept hBw)).str (bytesL_256 _) (by rw [bytesL_len, hll]; omega)
        rw [show (bytesL (lineW ws n)).length = 64 by rw [bytesL_len, hll]] at hstr
        have hcell := fun (j : Nat) (v : Value) (hj : ([.int .u64 ((wat (R.line n).base 0 : Nat) : Int), .int .u64 ((wat (R.line n).base 1 : Nat) : Int), .int .u64 ((wat (R.line n).base 2 : Nat) : Int), .int .u64 ((wat (R.line n).base 3 : Nat) : Int), .int .u64 ((wat (R.line n).base 4 : Nat) : Int), .int .u64 ((wat (R.line n).base 5 : Nat) : Int), .int .u64 ((wat (R.line n).base 6 : Nat) : Int), .int .u64 ((wat (R.line n).base 7 : Nat) : Int), .slice va (R.line n).hist.length vc, .int .i64 ((R.line n).done : Int)] : List Value)[j]? = some v) wx (hb : Below w1.heap.size w1 wx) => (hRow.only (Only.of_below hb) (Nat.not_le.2 hRow.lt)).cell hj
        have kB : Below w1.heap.size w1 w1 := Below.refl _ _
        have hstB : ∀ wx, Below w1.heap.size w1 wx → (convert 31 9 (.slice (some ⟨b0, o0 + 64 * n, none⟩) 64 (c - 64 * n))).run Try.prog wx = .ok (.string (strOf (bytesL (lineW ws n)))) wx := fun wx hb => hstr wx hb
        have hpsu := possTo_succ R ws n
        have hno := fun (hx : leastL (R.line n) (lineW ws n) = none) wx (hb : Below w1.heap.size w1 wx) => hfin.out false wx (hBw.trans (hb.mono hBw.size)) (by unfold possB; rw [possTo_false hlt hx, Bool.and_false])
        have hbb := fun wx (hb : Below w1.heap.size w1 wx) => hBw.trans (hb.mono hBw.size)
        have ew1 : IntKind.i64.wrap (64 * (n : Int)) = 64 * (n : Int) := IntWalk.i64_in _ (by omega)
        have ew2 : IntKind.i64.wrap (64 * (n : Int) + 64) = 64 * (n : Int) + 64 := IntWalk.i64_in _ (by omega)
        have et1 : (64 * (n : Int)).toNat = 64 * n := by omega
        have et2 : (64 * (n : Int) + 64).toNat = 64 * n + 64 := by omega
        have hle : 64 * (n : Int) ≤ 64 * (n : Int) + 64 := by omega
        have hle0 : (0 : Int) ≤ 64 * (n : Int) := by omega
        have hlc2 : 64 * (n : Int) + 64 ≤ (c : Int) := by omega
        have hwn := Lib.hid (show wrap64 ((n : Int) + 1) = (n : Int) + 1 by unfold wrap64; omega)
        obtain ⟨li, hli⟩ : ∃ li, li = leastI (R.line n) (lineW ws n) := ⟨_, rfl⟩
        rw [← hli] at hls
        generalize strOf (bytesL (lineW ws n)) = st at *
        replace hls := Lib.hid hls
        replace hstB := Lib.hid hstB
        replace hcell := Lib.hid hcell
        replace hno := Lib.hid hno
        replace hbb := Lib.hid hbb
        replace hpsu := Lib.hid hpsu
        replace hw1 := Lib.hid hw1
        replace hli := Lib.hid hli
        replace hps := Lib.hid hps
        replace hll := Lib.hid hll
        clear hlc hrd hRow hBr hB1 hBw hstr hokl
        go_wp2_with fail
        rw [← hw1.out]
        refine wp_region_call1 9 [] (C0 := fun w' => w' = w1.drew) (C1 := fun v w' => v = .int .i64 li ∧ Below w1.heap.size w1 w') (by kernel_rfl) (by kernel_rfl) (by decide) (by kernel_rfl) rfl (fun wx hx => ?_) (fun v hx => ?_)
        · obtain ⟨e, w', _, h2⟩ := Calls.ex (hls.out wx (by rw [hx]; exact Fr.drew kB))
          exact ⟨_, w', rfl, Fr.step (by rw [hx]; exact Fr.drew kB) h2⟩
        · obtain ⟨w', rfl, _⟩ := hx
          have hbc : ∀ wx, clsAt (cls1 (fun w' => w' = w1.drew) (fun v w' => v = .int .i64 li ∧ Below w1.heap.size w1 w')) [.int .i64 li] 0 wx → Below w1.heap.size w1 wx := fun wx hx => by
            rcases cls1_at0 hx with h | h
            · rw [h]; exact Fr.drew kB
            · exact h.2
          replace hbc := Lib.hid hbc
          refine lex_chunk 0 9 _ _ _ (fun _ _ => Nat.zero_le _) (by kernel_rfl) (fun j hj => by unfold rk1; rw [if_neg (by omega)]) (by decide) ?_
          simp only [List.take_succ_cons, List.take_zero, List.drop_succ_cons, List.drop_zero]
          go_big_quiet_want
          go_big_quiet_op
          refine ⟨.agg (([.int .u64 ((wat (R.line n).base 0 : Nat) : Int), .int .u64 ((wat (R.line n).base 1 : Nat) : Int), .int .u64 ((wat (R.line n).base 2 : Nat) : Int), .int .u64 ((wat (R.line n).base 3 : Nat) : Int), .int .u64 ((wat (R.line n).base 4 : Nat) : Int), .int .u64 ((wat (R.line n).base 5 : Nat) : Int), .int .u64 ((wat (R.line n).base 6 : Nat) : Int), .int .u64 ((wat (R.line n).base 7 : Nat) : Int), .slice va (R.line n).hist.length vc, .int .i64 ((R.line n).done : Int)] : List Value)).toArray, fun wx hx => by
            have hb := hbc.out wx hx
            simp [go_sem, hcell.out 0 _ rfl wx hb, hcell.out 1 _ rfl wx hb, hcell.out 2 _ rfl wx hb, hcell.out 3 _ rfl wx hb, hcell.out 4 _ rfl wx hb, hcell.out 5 _ rfl wx hb, hcell.out 6 _ rfl wx hb, hcell.out 7 _ rfl wx hb, hcell.out 8 _ rfl wx hb, hcell.out 9 _ rfl wx hb], ?_⟩
          go_big_quiet_on
          iterate 7 (go_big_quiet_want; go_big_quiet_op; first | go_big_quiet_on | (refine ⟨_, fun _ _ => rfl, ?_⟩; go_big_quiet_on))
          go_big_quiet_want
          go_big_quiet_op
          refine ⟨.string st, fun wx hx => by rw [hstB.out wx (hbc.out wx hx)]; exact ⟨rfl, rfl⟩, ?_⟩
          go_big_quiet_on
          refine wpQuiet_nil ?_
          refine lex_call (r := 0) (v := .int .i64 li) rfl (by go_simp; exact rfl) rfl (by kernel_rfl) (fun wx hx => ?_) ?_
          · replace hx : wx = w1.drew := hx
            refine callUpon_mk (f := 58) (args := #[.agg (([.int .u64 ((wat (R.line n).base 0 : Nat) : Int), .int .u64 ((wat (R.line n).base 1 : Nat) : Int), .int .u64 ((wat (R.line n).base 2 : Nat) : Int), .int .u64 ((wat (R.line n).base 3 : Nat) : Int), .int .u64 ((wat (R.line n).base 4 : Nat) : Int), .int .u64 ((wat (R.line n).base 5 : Nat) : Int), .int .u64 ((wat (R.line n).base 6 : Nat) : Int), .int .u64 ((wat (R.line n).base 7 : Nat) : Int), .slice va (R.line n).hist.length vc, .int .i64 ((R.line n).done : Int)] : List Value)).toArray, .string st]) (by simp [go_sem]) ?_
            exact (hls.out wx (by rw [hx]; exact Fr.drew kB)).mono fun e w'' ⟨he, h2⟩ => ⟨_, he, rfl, Fr.step (by rw [hx]; exact Fr.drew kB) h2⟩
          refine lex_chunk 0 1 _ _ _ (fun _ _ => Nat.zero_le _) (by kernel_rfl) (fun j hj => by unfold rk1; rw [if_neg (by omega)]) (by decide) ?_
          simp only [List.take_succ_cons, List.take_zero, List.drop_succ_cons, List.drop_zero]
          repeat (first | go_big_quiet_skip | (go_big_quiet_want; go_big_quiet_op; first | go_big_quiet_on | (refine ⟨_, fun _ _ => rfl, ?_⟩; go_big_quiet_on)))
          refine wpQuiet_nil ?_
          intro wz hz
          replace hz := hz.2
          have hBz := hbb.out wz hz
          have hnz := fun hx => hno.out hx wz hz
          clear hbc hls hstB hcell hbb hno ew1 ew2 et1 et2 hle hle0 hlc2
          simp only [Exit.then]
          cases hL : leastL (R.line n) (lineW ws n) with
          | none =>
            have hx := Lib.hid (hnz hL)
            have hl1 : li = -1 := by rw [hli.out, leastI_none hL]
            have hd : decide (li < 0) = true := decide_eq_true (by omega)
            replace hL := Lib.hid hL
            subst hl1
            clear hnz
            go_wp2_with fail
            exact hx.out
          | some kk =>
            have hl1 : li = (kk : Int) := by rw [hli.out, (leastI_some hL).1]
            have hps2 : possTo R ws (n + 1) = true := by rw [hpsu.out, hps.out, hL]; rfl
            replace hL := Lib.hid hL
            replace hps2 := Lib.hid hps2
            subst hl1
            have hd : decide ((kk : Int) < 0) = false := decide_eq_false (by omega)
            clear hnz
            go_wp2_with fail
            exact ⟨⟨n + 1, by omega, rfl, hBz, hps2.out⟩, by simp [intOf]; omega⟩
      · obtain rfl : n = R.lines.length := by omega
        have hkI : decide ((R.lines.length : Int) < (R.lines.length : Int)) = false := decide_eq_false (by omega)
        have hkN : decide (R.lines.length < R.lines.length) = false := decide_eq_false (by omega)
        have hx := Lib.hid (hfin.out true wr hBr (by unfold possB; rw [hps, decide_eq_true hm.out]; rfl))
        clear hBr hps
        go_wp2_with fail
        exact hx.out
  · have hne : (((m : Int) * 64) == (64 * (R.lines.length : Int))) = false := beq_eq_false_iff_ne.2 (by omega)
    have hne2 : (((m : Int) * 64) != (64 * (R.lines.length : Int))) = true := by rw [bne, hne]; rfl
    have hx := Lib.hid (hfin.out false w (Below.refl _ _) (by unfold possB; rw [decide_eq_false (by rw [hm.out]; omega)]; rfl))
    go_enter Try.func39, Try.ntmps39
    go_wp2_with fail
    exact hx.out
end Go.Proofs.Ytikjpklbbjmioaa
