/- crashset: the reference's Index. -/
import Derived.Test.YtikjpklbbjmioaaK32
import Derived.Test.YtikjpklbbjmioaaK30
namespace Go.Proofs.Ytikjpklbbjmioaa
open Go.RowKit Go.Maps Go.BigFrame
variable {w : World} {F : Own} {o h T : Nat} {R : Dv} {L : Lay}
set_option maxHeartbeats 4000000 in
set_option maxRecDepth 100000 in
theorem rindex_any (hr : RefSt w F o h T R) (ws : List Nat) (m : Nat) (a : Option Addr) (c : Nat) (hm : ws.length = m * 8) (hm2 : m ≤ 5000) (hc : m * 64 ≤ c) (hc2 : c ≤ 9223372036854775807) (hw : ∀ x ∈ ws, x < 18446744073709551616)
    (hp : Rd w (.slice a (bytesL ws).length c) (bytesL ws).length (u8s (bytesL ws))) :
    Calls Try.prog 25 #[.pointer (some ⟨h, 0, none⟩), .slice a (bytesL ws).length c] w (IdxPost w R ws) := by
  generalize hpost : IdxPost w R ws = post
  have hn2 := hr.ok.n2
  have hok := hr.ok
  have ht100 := hr.ok.t
  have hbl : (bytesL ws).length = m * 64 := by rw [bytesL_len]; omega
  obtain ⟨lb, lc, ns, h1, h2, h3, _⟩ := hr.ex
  have cl0 := h1.cell (refCells_lines lb lc ns R)
  have hlines := fun (i : Nat) (hi : i < R.lines.length) => h2.cells hi
  have hlb : lb < w.heap.size := by obtain ⟨cs, _, x, _⟩ := h2; exact ownsRow_lt x (k := lb) rfl
  have hn1 := hok.n1
  have hdl0 : (dirtyL R).length ≤ R.lines.length := dirtyTo_len R R.lines.length
  have hyes : ∀ wx, Below w.heap.size w wx → possB R ws = true → numTo R (dirtyL R) (leastR R ws) < 4611686018427387904 → post (.returned (.tuple #[.int .u64 ((numTo R (dirtyL R) (leastR R ws) : Nat) : Int), .bool true])) wx := fun wx hb h1 h2 => by
    rw [← hpost]; unfold IdxPost idxV idxN; rw [if_pos ⟨h1, h2⟩]; exact ⟨rfl, hb⟩
  have hno : ∀ wx, Below w.heap.size w wx → (possB R ws = false ∨ 4611686018427387904 ≤ numTo R (dirtyL R) (leastR R ws)) → post (.returned (.tuple #[.int .u64 0, .bool false])) wx := fun wx hb h1 => by
    rw [← hpost]; unfold IdxPost idxV idxN
    have hn : ¬ (possB R ws = true ∧ numTo R (dirtyL R) (leastR R ws) < 4611686018427387904) := by
      rintro ⟨h2, h3⟩
      rcases h1 with h1 | h1
      · rw [h1] at h2; cases h2
      · omega
    rw [if_neg hn]; exact ⟨rfl, hb⟩
  have hdm : ∀ k, k < (dirtyL R).length → (dirtyL R)[k]? = some ((dirtyL R).getD k 0) ∧ (dirtyL R).getD k 0 < R.lines.length ∧ baseL R ((dirtyL R).getD k 0) ≤ 100001 := fun k hk => by
    have h1 := get_of_lt 0 hk
    have h3 := (dirtyTo_mem (List.mem_of_getElem? h1)).1
    have h2 := (hok.ln _ h3).hl
    refine ⟨h1, h3, ?_⟩
    unfold baseL; omega
  have hmono := numTo_mono R (dirtyL R) (leastR R ws)
  have htake := numTo_take R (dirtyL R) (leastR R ws)
  have hlr := leastR_le R ws
  have hps := rposs_any hr ws m a c hm hm2 hc hc2 hw hp
  have hdr := fun wx (hb : Below w.heap.size w wx) => rdirty_any (hr.below hb)
  have hcl := fun wx (hb : Below w.heap.size w wx) => (hb.cell (World.block_lt_of_cell? _ _ cl0)).trans cl0
  rw [hbl] at hps ⊢
  replace hpost := Lib.hid hpost
  replace hyes := Lib.hid hyes
  replace hno := Lib.hid hno
  replace hdm := Lib.hid hdm
  replace hmono := Lib.hid hmono
  replace htake := Lib.hid htake
  replace hlr := Lib.hid hlr
  replace hps := Lib.hid hps
  replace hdr := Lib.hid hdr
  replace hcl := Lib.hid hcl
  replace hlines := Lib.hid hlines
  replace hp := Lib.hid hp
  replace hbl := Lib.hid hbl
  replace hm := Lib.hid hm
  clear hr h1 h2 h3 cl0
  go_enter Try.func25, Try.ntmps25
  go_wp2_with fail
  refine hps.out.mono ?_
  rintro e w1 ⟨rfl, hB1⟩
  cases hpb : possB R ws with
  | false =>
    have hx := Lib.hid (hno.out w1 hB1 (.inl hpb))
    replace hpb := Lib.hid hpb
    go_wp2_with fail
    exact hx.out
  | true =>
    have hml : m = R.lines.length := by
      unfold possB at hpb
      rw [Bool.and_eq_true] at hpb
      have := of_decide_eq_true hpb.1
      rw [hm.out] at this; omega
    subst hml
    obtain ⟨b0, o0, c0, ea, fa⟩ := hp.out.cells (by rw [hbl.out]; omega)
    simp only [Value.slice.injEq, true_and] at ea
    obtain ⟨rfl, ea2⟩ := ea
    replace ea2 := Lib.hid ea2
    clear fa
    have hlq := fun (d : Nat) (hd : d < R.lines.length) => Option.isSome_iff_exists.1 (by
      unfold possB possTo at hpb
      rw [Bool.and_eq_true, List.all_eq_true] at hpb
      exact hpb.2 d (List.mem_range.2 hd))
    replace hpb := Lib.hid hpb
    replace hlq := Lib.hid hlq
    go_wp2_with fail
    refine (hdr.out w1 hB1).mono ?_
    rintro e w2 ⟨da, dc, rfl, hown, hB2, _⟩
    have hBw := hB1.trans (hB2.mono hB1.size)
    have hrd := Rd.of_own hown
    have cl2 := hcl.out w2 hBw
    replace hrd := Lib.hid hrd
    clear hown hB2 hdr hps
    generalize hds : dirtyL R = ds at *
    replace hds := Lib.hid hds
    go_wp2_with fail
    go_loopw [6, 18] (fun nv iv wr => ∃ k : Nat, k ≤ ds.length ∧ iv = .int .i64 (k : Int) ∧ nv = .int .u64 ((numTo R (ds.take k) (leastR R ws) : Nat) : Int) ∧ numTo R (ds.take k) (leastR R ws) < 4611686018427387904 ∧ Below w2.heap.size w2 wr) (fun _ iv _ => ds.length - (intOf iv).toNat)
    case atStart => exact ⟨0, Nat.zero_le _, rfl, rfl, by rw [List.take_zero]; show 0 < 4611686018427387904; omega, Below.refl _ _⟩
    case round =>
      clear cl2
      obtain ⟨k, hk, rfl, rfl, hlt62, hBr⟩ := hrel
      have hBr' := hBw.trans (hBr.mono hBw.size)
      by_cases hlt : k < ds.length
      · have hkI : decide ((k : Int) < (ds.length : Int)) = true := decide_eq_true (by omega)
        have hkN : decide (k < ds.length) = true := decide_eq_true hlt
        have hk0 : (0 : Int) ≤ (k : Int) := by omega
        have hkl : (k : Int) < (ds.length : Int) := by omega
        obtain ⟨hdk, hdr, hdb⟩ := hdm.out k hlt
        obtain ⟨bl, ol, cl, eb, fb⟩ := (hrd.out.kept hBr).cells (by omega)
        simp only [Value.slice.injEq, true_and] at eb
        obtain ⟨rfl, eb2⟩ := eb
        replace eb2 := Lib.hid eb2
        have ck := fb _ _ (nats_get _ _ _ hdk)
        have hpk := htake.out k hlt
        have hmn := hmono.out (k + 1)
        have hl1 := hlr.out (ds.getD k 0)
        obtain ⟨kk, hkk⟩ := hlq.out _ hdr
        have hkr : leastR R ws (ds.getD k 0) = kk := (leastI_some hkk).2
        rw [hkr] at hpk hl1
        generalize ds.getD k 0 = d at *
        obtain ⟨va, vc, hlc, hrw⟩ := hlines.out d hdr
        have hokl := hok.ln d hdr
        have hll := lineW_len hm.out hdr
        have hB : baseL R d = (R.line d).hist.length + 1 := rfl
        have hd0 : (0 : Int) ≤ (d : Int) := by omega
        have hdI : (d : Int) < (R.lines.length : Int) := by omega
        obtain ⟨c0', c1, c2, c3, c4, c5, c6, c7, c8, c9⟩ := hlc.only (Only.of_below hBr') (Nat.not_le.2 hlb)
        have kB : Below wr.heap.size wr wr := Below.refl _ _
        have hbb : ∀ wx, Below wr.heap.size wr wx → Below w.heap.size w wx := fun wx hb => hBr'.trans (hb.mono hBr'.size)
        have hbb2 : ∀ wx, Below wr.heap.size wr wx → Below w2.heap.size w2 wx := fun wx hb => hBr.trans (hb.mono hBr.size)
        have hcs := fun wx (hb : Below wr.heap.size wr wx) => hlc.only (Only.of_below (hbb wx hb)) (Nat.not_le.2 hlb)
        have hls := fun wx (hb : Below wr.heap.size wr wx) => rleast_any (w := wx) (R.line d) (lineW ws d) va vc ((R.line d).done : Int) hokl.b hokl.bv hll (lineW_lt hw d) (by have := hokl.hl; omega) (hrw.1.kept (hbb wx hb)) (fun p hp => by obtain ⟨q1, q2, q3⟩ := hokl.h p hp; omega)
        rw [(leastI_some hkk).1] at hls
        have hstr := (line_rd (n := d) (c' := c - 64 * d) (by rw [hm.out]; omega) (hp.out.kept hBr')).str (bytesL_256 _) (by rw [bytesL_len, hll]; omega)
        rw [show (bytesL (lineW ws d)).length = 64 by rw [bytesL_len, hll]] at hstr
        have hstB : ∀ wx, Below wr.heap.size wr wx → (convert 31 9 (.slice (some ⟨b0, o0 + 64 * d, none⟩) 64 (c - 64 * d))).run Try.prog wx = .ok (.string (strOf (bytesL (lineW ws d)))) wx := fun wx hb => hstr wx hb
        have hcl3 := fun wx (hb : Below wr.heap.size wr wx) => hcl.out wx (hbb wx hb)
        have clr := hcl3 wr kB
        have ew1 : IntKind.i64.wrap (64 * (d : Int)) = 64 * (d : Int) := IntWalk.i64_in _ (by omega)
        have ew2 : IntKind.i64.wrap (64 * (d : Int) + 64) = 64 * (d : Int) + 64 := IntWalk.i64_in _ (by omega)
        have et1 : (64 * (d : Int)).toNat = 64 * d := by omega
        have et2 : (64 * (d : Int) + 64).toNat = 64 * d + 64 := by omega
        have hle : 64 * (d : Int) ≤ 64 * (d : Int) + 64 := by omega
        have hle0 : (0 : Int) ≤ 64 * (d : Int) := by omega
        have hlc2 : 64 * (d : Int) + 64 ≤ (c : Int) := by omega
        have hwk := Lib.hid (show wrap64 ((k : Int) + 1) = (k : Int) + 1 by unfold wrap64; omega)
        have hhl := hokl.hl
        have hul : IntKind.u64.wrap (((R.line d).hist.length : Int) + 1) = ((R.line d).hist.length : Int) + 1 := IntWalk.u64_in _ (by omega)
        have huk : IntKind.u64.wrap (kk : Int) = (kk : Int) := IntWalk.u64_in _ (by omega)
        generalize strOf (bytesL (lineW ws d)) = st at *
        obtain ⟨b, hb⟩ : ∃ b, b = baseL R d := ⟨_, rfl⟩
        rw [← hb] at hpk hB hdb
        generalize hP : numTo R (ds.take k) (leastR R ws) = P at *
        replace hls := Lib.hid hls
        replace hstB := Lib.hid hstB
        replace hcs := Lib.hid hcs
        replace hcl3 := Lib.hid hcl3
        replace hbb := Lib.hid hbb
        replace hbb2 := Lib.hid hbb2
        replace hdk := Lib.hid hdk
        replace hkk := Lib.hid hkk
        replace hkr := Lib.hid hkr
        replace hpk := Lib.hid hpk
        replace hmn := Lib.hid hmn
        replace hb := Lib.hid hb
        replace hP := Lib.hid hP
        replace hll := Lib.hid hll
        replace hB := Lib.hid hB
        clear hlc hrw hBr hBr' hstr fb hokl
        go_wp2_with fail
        refine wp_region_call1 15 [] (C0 := fun w' => w' = wr.drew) (C1 := fun v w' => v = .int .i64 (kk : Int) ∧ Below wr.heap.size wr w') (by kernel_rfl) (by kernel_rfl) (by decide) (by kernel_rfl) rfl (fun wx hx => ?_) (fun v hx => ?_)
        · obtain ⟨e, w', _, h2⟩ := Calls.ex (hls.out wx (by rw [hx]; exact Fr.drew kB))
          exact ⟨_, w', rfl, Fr.step (by rw [hx]; exact Fr.drew kB) h2⟩
        · obtain ⟨w', rfl, _⟩ := hx
          have hbc : ∀ wx, clsAt (cls1 (fun w' => w' = wr.drew) (fun v w' => v = .int .i64 (kk : Int) ∧ Below wr.heap.size wr w')) [.int .i64 (kk : Int)] 0 wx → Below wr.heap.size wr wx := fun wx hx => by
            rcases cls1_at0 hx with h | h
            · rw [h]; exact Fr.drew kB
            · exact h.2
          replace hbc := Lib.hid hbc
          refine lex_chunk 0 15 _ _ _ (fun _ _ => Nat.zero_le _) (by kernel_rfl) (fun j hj => by unfold rk1; rw [if_neg (by omega)]) (by decide) ?_
          simp only [List.take_succ_cons, List.take_zero, List.drop_succ_cons, List.drop_zero]
          iterate 3 (go_big_quiet_want; go_big_quiet_op; first | go_big_quiet_on | (refine ⟨_, fun _ _ => rfl, ?_⟩; go_big_quiet_on))
          go_big_quiet_want
          go_big_quiet_op
          refine ⟨.slice (some ⟨lb, 0, none⟩) R.lines.length lc, fun wx hx => by simp [go_sem, hcl3.out wx (hbc.out wx hx)], ?_⟩
          go_big_quiet_on
          iterate 2 (go_big_quiet_want; go_big_quiet_op; first | go_big_quiet_on | (refine ⟨_, fun _ _ => rfl, ?_⟩; go_big_quiet_on))
          go_big_quiet_want
          go_big_quiet_op
          refine ⟨.agg (([.int .u64 ((wat (R.line d).base 0 : Nat) : Int), .int .u64 ((wat (R.line d).base 1 : Nat) : Int), .int .u64 ((wat (R.line d).base 2 : Nat) : Int), .int .u64 ((wat (R.line d).base 3 : Nat) : Int), .int .u64 ((wat (R.line d).base 4 : Nat) : Int), .int .u64 ((wat (R.line d).base 5 : Nat) : Int), .int .u64 ((wat (R.line d).base 6 : Nat) : Int), .int .u64 ((wat (R.line d).base 7 : Nat) : Int), .slice va (R.line d).hist.length vc, .int .i64 ((R.line d).done : Int)] : List Value)).toArray, fun wx hx => by
            obtain ⟨q0, q1, q2, q3, q4, q5, q6, q7, q8, q9⟩ := hcs.out wx (hbc.out wx hx)
            simp [go_sem, q0, q1, q2, q3, q4, q5, q6, q7, q8, q9], ?_⟩
          go_big_quiet_on
          iterate 7 (go_big_quiet_want; go_big_quiet_op; first | go_big_quiet_on | (refine ⟨_, fun _ _ => rfl, ?_⟩; go_big_quiet_on))
          go_big_quiet_want
          go_big_quiet_op
          refine ⟨.string st, fun wx hx => by rw [hstB.out wx (hbc.out wx hx)]; exact ⟨rfl, rfl⟩, ?_⟩
          go_big_quiet_on
          refine wpQuiet_nil ?_
          refine lex_call (r := 0) (v := .int .i64 (kk : Int)) rfl (by go_simp; exact rfl) rfl (by kernel_rfl) (fun wx hx => ?_) ?_
          · replace hx : wx = wr.drew := hx
            refine callUpon_mk (f := 58) (args := #[.agg (([.int .u64 ((wat (R.line d).base 0 : Nat) : Int), .int .u64 ((wat (R.line d).base 1 : Nat) : Int), .int .u64 ((wat (R.line d).base 2 : Nat) : Int), .int .u64 ((wat (R.line d).base 3 : Nat) : Int), .int .u64 ((wat (R.line d).base 4 : Nat) : Int), .int .u64 ((wat (R.line d).base 5 : Nat) : Int), .int .u64 ((wat (R.line d).base 6 : Nat) : Int), .int .u64 ((wat (R.line d).base 7 : Nat) : Int), .slice va (R.line d).hist.length vc, .int .i64 ((R.line d).done : Int)] : List Value)).toArray, .string st]) (by simp [go_sem]) ?_
            exact (hls.out wx (by rw [hx]; exact Fr.drew kB)).mono fun e w'' ⟨he, h2⟩ => ⟨_, he, rfl, Fr.step (by rw [hx]; exact Fr.drew kB) h2⟩
          refine lex_chunk 0 2 _ _ _ (fun _ _ => Nat.zero_le _) (by kernel_rfl) (fun j hj => by unfold rk1; rw [if_neg (by omega)]) (by decide) ?_
          simp only [List.take_succ_cons, List.take_zero, List.drop_succ_cons, List.drop_zero]
          repeat (first | go_big_quiet_skip | (go_big_quiet_want; go_big_quiet_op; first | go_big_quiet_on | (refine ⟨_, fun _ _ => rfl, ?_⟩; go_big_quiet_on)))
          refine wpQuiet_nil ?_
          intro wz hz
          replace hz := hz.2
          have hBz := hbb.out wz hz
          have hBz2 := hbb2.out wz hz
          clear hbc hls hstB hcs hbb hbb2 hcl3 ew1 ew2 et1 et2 hle hle0 hlc2 hul huk clr
          simp only [Exit.then]
          have hgd := gt_div P b (4611686018427387903 - kk) (by have := hB.out; omega)
          have hqle := Nat.div_le_self (4611686018427387903 - kk) b
          obtain ⟨qq, hqq⟩ : ∃ qq, qq = (4611686018427387903 - kk) / b := ⟨_, rfl⟩
          have hBo := hB.out
          generalize (R.line d).hist.length = hl at *
          have hcd : (4611686018427387903 - (kk : Int)) / ((hl : Int) + 1) = (qq : Int) := by
            rw [hqq, show (hl : Int) + 1 = ((b : Nat) : Int) by omega, show (4611686018427387903 : Int) - (kk : Int) = ((4611686018427387903 - kk : Nat) : Int) by omega]
            simp
          rw [← hqq] at hgd hqle
          replace hqq := Lib.hid hqq
          have hq : (4611686018427387903 - (kk : Int)) / ((hl : Int) + 1) ≤ 4611686018427387904 ∧ 0 ≤ (4611686018427387903 - (kk : Int)) / ((hl : Int) + 1) := by rw [hcd]; omega
          have e3 : (((hl : Int) + 1) == 0) = false := beq_eq_false_iff_ne.2 (by omega)
          have e4 : ¬ ((hl : Int) + 1 = 0) := by omega
          have hmI : ((P * b : Nat) : Int) = (P : Int) * ((hl : Int) + 1) := by rw [show (hl : Int) + 1 = ((b : Nat) : Int) by omega]; simp
          have hkb : kk ≤ 100000 := by omega
          by_cases hc4 : 4611686018427387903 - kk < P * b
          · have g1 : decide ((4611686018427387903 - (kk : Int)) / ((hl : Int) + 1) < (P : Int)) = true := decide_eq_true (by rw [hcd]; have := hgd.2 hc4; omega)
            have hx := Lib.hid (hno.out wz hBz (.inr (by have := hmn.out; rw [hpk.out] at this; omega)))
            replace hgd := Lib.hid hgd
            replace hcd := Lib.hid hcd
            replace hc4 := Lib.hid hc4
            replace hmI := Lib.hid hmI
            replace hBo := Lib.hid hBo
            go_wp2_with fail
            exact hx.out
          · have g1 : decide ((4611686018427387903 - (kk : Int)) / ((hl : Int) + 1) < (P : Int)) = false := decide_eq_false (by rw [hcd]; have := mt hgd.1 hc4; omega)
            have hmb : 0 ≤ (P : Int) * ((hl : Int) + 1) ∧ (P : Int) * ((hl : Int) + 1) ≤ 4611686018427387904 := by rw [← hmI]; exact ⟨Int.natCast_nonneg _, by omega⟩
            have hmb2 : (P : Int) * ((hl : Int) + 1) + (kk : Int) ≤ 4611686018427387904 := by rw [← hmI]; omega
            have hrel : ∃ k' : Nat, k' ≤ ds.length ∧ Value.int .i64 ((k : Int) + 1) = .int .i64 (k' : Int) ∧ Value.int .u64 ((P : Int) * ((hl : Int) + 1) + (kk : Int)) = .int .u64 ((numTo R (ds.take k') (leastR R ws) : Nat) : Int) ∧ numTo R (ds.take k') (leastR R ws) < 4611686018427387904 ∧ Below w2.heap.size w2 wz :=
              ⟨k + 1, by omega, by go_num, by rw [hpk.out, ← hmI]; simp, by rw [hpk.out]; omega, hBz2⟩
            replace hrel := Lib.hid hrel
            replace hgd := Lib.hid hgd
            replace hcd := Lib.hid hcd
            replace hc4 := Lib.hid hc4
            replace hmI := Lib.hid hmI
            replace hBo := Lib.hid hBo
            go_wp2_with fail
            exact ⟨hrel.out, by simp [intOf]; omega⟩
      · obtain rfl : k = ds.length := by omega
        have hkI : decide ((ds.length : Int) < (ds.length : Int)) = false := decide_eq_false (by omega)
        have hkN : decide (ds.length < ds.length) = false := decide_eq_false (by omega)
        rw [List.take_length] at hlt62 ⊢
        have hx := Lib.hid (hyes.out _ hBr' hpb.out hlt62)
        clear hBr hBr'
        go_wp2_with fail
        exact hx.out
end Go.Proofs.Ytikjpklbbjmioaa
