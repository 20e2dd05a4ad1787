/- Walks: the law PlanTexts. -/
import Derived.Test.YtgnoikfmhncbmaaGreatDoorP2
import Derived.Test.YtgnoikfmhncbmaaGreatDoorU11
set_option linter.unusedVariables false
set_option linter.unusedSimpArgs false
namespace Go.Proofs.YtgnoikfmhncbmaaGreatDoor
open Go.RowKit Go.Lib
theorem quiet_loadA {P : Program} {C : World → Prop} {o : Oper} {a : Act} {K : Act → Prop} (x : Operand) (t : TypeId) (ho : o.op = .load t x) (v : Value) (hrun : ∀ w, C w → (Instr.loadAt t (a.eval x)).run P w = .ok v w) {a' : Act} (ha : a.put o.dst v = a') (h : K a') : Oper.quiet P o a C K :=
  ⟨v, fun w hw => by
    have e : (execOp a.eval o).run P w = .ok (.value v) w := by
      unfold execOp
      simp only [ho, Sem.run_bind, Sem.run_pure, Result.andThen_ok, hrun w hw]
    show Oper.quietUpon P C w v ((execOp a.eval o).run P w)
    rw [e]
    exact ⟨rfl, rfl⟩, by rw [ha]; exact h⟩
theorem rplan_load {w : World} {b : Nat} {cs : List Value} (hh : Has w b cs 48) (hl : cs.length = 17) : (Instr.loadAt 48 (.pointer (some ⟨b, 0, none⟩))).run Tryz.prog w = .ok (.agg cs.toArray) w := by
  have h2 := run_loadCells_list (P := Tryz.prog) w ⟨b, 0, none⟩ cs (fun j v hv => news_at hh j v hv)
  rw [hl] at h2
  simp only [Instr.loadAt, Instr.sureAddr, loadVar, Sem.run_bind, Sem.run_pure, Result.andThen_ok, Tryz.isAgg48, Tryz.sizeOf48, if_true, h2]
theorem build_P {o : Oper} {a : Act} {p ta tb fa fb : Nat} {col xa xb od : ByteArray} {na ba1 nb bb ds : Bool} {ia ib lm : Int} (ho : o.op = .build 48 #[(0, .tmp 15), (1, .tmp 17), (2, .tmp 20), (3, .tmp 23), (4, .tmp 25), (5, .tmp 27), (6, .tmp 29), (7, .tmp 31), (8, .tmp 33)])
    (h0 : a.eval (.tmp 15) = .int .i64 (p : Int)) (h1 : a.eval (.tmp 17) = .string col) (h2 : a.eval (.tmp 20) = .agg #[.int .i64 (ta : Int), .bool na, .int .i64 ia, .string xa, .bool ba1]) (h3 : a.eval (.tmp 23) = .agg #[.int .i64 (tb : Int), .bool nb, .int .i64 ib, .string xb, .bool bb]) (h4 : a.eval (.tmp 25) = .int .u32 (fa : Int)) (h5 : a.eval (.tmp 27) = .int .u32 (fb : Int)) (h6 : a.eval (.tmp 29) = .string od) (h7 : a.eval (.tmp 31) = .bool ds) (h8 : a.eval (.tmp 33) = .int .i64 lm)
    (w : World) : (execOp a.eval o).run Tryz.prog w = .ok (.value (.agg #[.int .i64 (p : Int), .string col, .int .i64 (ta : Int), .bool na, .int .i64 ia, .string xa, .bool ba1, .int .i64 (tb : Int), .bool nb, .int .i64 ib, .string xb, .bool bb, .int .u32 (fa : Int), .int .u32 (fb : Int), .string od, .bool ds, .int .i64 lm])) w := by
  unfold execOp
  simp only [ho, List.map_toArray, List.map_cons, List.map_nil, h0, h1, h2, h3, h4, h5, h6, h7, h8]
  simp [go_sem]
set_option maxHeartbeats 8000000 in
set_option maxRecDepth 100000 in
theorem texts_walk (p : Nat) (hp : p < 256) (col : ByteArray) (ta : Nat) (hta : ta < 256) (na : Bool) (ia : Int) (xa : ByteArray) (ba1 : Bool) (tb : Nat) (htb : tb < 256) (nb : Bool) (ib : Int) (xb : ByteArray) (bb : Bool) (fa fb : Nat) (hfa : fa < 4294967296) (hfb : fb < 4294967296) (f : Option Addr) (fs : Bool) (od : ByteArray) (ds : Bool) (lm : Int) (hl0 : -9223372036854775808 ≤ lm) (hl1 : lm ≤ 9223372036854775807) (hs : col.size + od.size + xa.size + xb.size ≤ 4194304) (w : World) (hE : Env w) :
    Calls Tryz.prog 4 #[.agg #[.int .u8 (p : Int), .string col, .int .u8 (ta : Int), .bool na, .int .i64 ia, .string xa, .bool ba1, .int .u8 (tb : Int), .bool nb, .int .i64 ib, .string xb, .bool bb, .int .u32 (fa : Int), .int .u32 (fb : Int), .pointer f, .string od, .bool ds, .int .i64 lm], .bool fs] w (RPost w (.bool true)) := by
  generalize hpost : RPost w (.bool true) = post
  have hfin : ∀ w', Below w.heap.size w w' → post (.returned (.bool true)) w' := fun w' hb => by rw [← hpost]; exact ⟨rfl, hb⟩
  replace hpost := Lib.hid hpost
  replace hfin := Lib.hid hfin
  have htl := text_len p col ⟨ta, na, ia, xa, ba1⟩ ⟨tb, nb, ib, xb, bb⟩ fa fb hfa hfb fs od ds lm hl0 hl1 hs
  have hxa : xa.size ≤ 9223372036854775807 := by omega
  have hxb : xb.size ≤ 9223372036854775807 := by omega
  replace htl := Lib.hid htl
  replace hs := Lib.hid hs
  replace hxa := Lib.hid hxa
  replace hxb := Lib.hid hxb
  obtain ⟨W0, hW0⟩ : ∃ W0, W0 = w.alloc (.cells #[.int .u8 (p : Int), .string col, .int .u8 (ta : Int), .bool na, .int .i64 ia, .string xa, .bool ba1, .int .u8 (tb : Int), .bool nb, .int .i64 ib, .string xb, .bool bb, .int .u32 (fa : Int), .int .u32 (fb : Int), .pointer f, .string od, .bool ds, .int .i64 lm] 43) := ⟨_, rfl⟩
  have hP : Has W0 w.heap.size [.int .u8 (p : Int), .string col, .int .u8 (ta : Int), .bool na, .int .i64 ia, .string xa, .bool ba1, .int .u8 (tb : Int), .bool nb, .int .i64 ib, .string xb, .bool bb, .int .u32 (fa : Int), .int .u32 (fb : Int), .pointer f, .string od, .bool ds, .int .i64 lm] 43 := by rw [hW0]; exact Has.new w _ _
  have hb0 : Below w.heap.size w W0 := by rw [hW0]; exact (Below.refl _ _).alloc (Nat.le_refl _) _
  have haw := Lib.hid (awake_any W0 (hE.below hb0))
  replace hW0 := Lib.hid hW0.symm
  replace hP := Lib.hid hP
  replace hb0 := Lib.hid hb0
  go_enter Tryz.func4, Tryz.ntmps4
  go_upto_region 1 with fail
  rw [hW0.out]
  go_wp2_with fail
  refine haw.out.mono ?_
  rintro e w1 ⟨rfl, hb1⟩
  have hP1 := hP.out.only (Only.of_below hb1) (Nat.not_le.2 hP.out.lt)
  have hb01 := hb0.out.trans (hb1.mono hb0.out.size)
  clear hb1 hP hb0 haw hW0
  have c14 := hP1.cell (o := 14) rfl
  have f14 := hP1.free 14
  have hP2 : Has (w1.setCell ⟨w.heap.size, 14, none⟩ (.pointer none)) w.heap.size [.int .u8 (p : Int), .string col, .int .u8 (ta : Int), .bool na, .int .i64 ia, .string xa, .bool ba1, .int .u8 (tb : Int), .bool nb, .int .i64 ib, .string xb, .bool bb, .int .u32 (fa : Int), .int .u32 (fb : Int), .pointer none, .string od, .bool ds, .int .i64 lm] 43 := hP1.set 14 _
  have hb02 : Below w.heap.size w (w1.setCell ⟨w.heap.size, 14, none⟩ (.pointer none)) := hb01.setCell (Nat.le_refl _) _
  replace hP1 := Lib.hid hP1
  replace hP2 := Lib.hid hP2
  replace hb01 := Lib.hid hb01
  replace hb02 := Lib.hid hb02
  go_upto_region 4 with fail
  generalize hw2 : w1.setCell ⟨w.heap.size, 14, none⟩ (.pointer none) = w2 at *
  clear c14 f14 hP1 hb01 hw2
  have d14 := hP2.out.cell (o := 14) rfl
  have e14 := hP2.out.free 14
  go_upto_if 9 with fail
  go_cut [4] (fun q wx => q = .bool false ∧ ∃ f2 : Option Addr, f2.isSome = fs ∧ Has wx w.heap.size [.int .u8 (p : Int), .string col, .int .u8 (ta : Int), .bool na, .int .i64 ia, .string xa, .bool ba1, .int .u8 (tb : Int), .bool nb, .int .i64 ib, .string xb, .bool bb, .int .u32 (fa : Int), .int .u32 (fb : Int), .pointer f2, .string od, .bool ds, .int .i64 lm] 43 ∧ Below w.heap.size w wx)
  case first =>
    as_aux_lemma =>
      cases fs with
      | false =>
        go_wp2_with fail
        go_meet
        exact ⟨rfl, none, rfl, hP2.out, hb02.out⟩
      | true =>
        have hA2 : Has (w2.alloc (.cells #[.int .u8 0, .pointer none, .pointer none, .string ⟨#[]⟩, .int .u8 0, .bool false, .int .i64 0, .string ⟨#[]⟩, .bool false] 46)) w.heap.size [.int .u8 (p : Int), .string col, .int .u8 (ta : Int), .bool na, .int .i64 ia, .string xa, .bool ba1, .int .u8 (tb : Int), .bool nb, .int .i64 ib, .string xb, .bool bb, .int .u32 (fa : Int), .int .u32 (fb : Int), .pointer none, .string od, .bool ds, .int .i64 lm] 43 := hP2.out.alloc _
        have g14 := hA2.cell (o := 14) rfl
        have i14 := hA2.free 14
        have hP3 := hA2.set 14 (.pointer (some ⟨w2.heap.size, 0, none⟩))
        have hb3 := (hb02.out.alloc hb02.out.size (.cells #[.int .u8 0, .pointer none, .pointer none, .string ⟨#[]⟩, .int .u8 0, .bool false, .int .i64 0, .string ⟨#[]⟩, .bool false] 46)).setCell (p := ⟨w.heap.size, 14, none⟩) (Nat.le_refl _) (.pointer (some ⟨w2.heap.size, 0, none⟩))
        replace hA2 := Lib.hid hA2
        replace hP3 := Lib.hid hP3
        replace hb3 := Lib.hid hb3
        go_wp2_with fail
        go_meet
        exact ⟨rfl, some ⟨w2.heap.size, 0, none⟩, rfl, hP3.out, hb3.out⟩
  case rest =>
    rename World => w3
    obtain ⟨rfl, f2, hf2, hP3, hb3⟩ := hcut
    clear d14 e14 hP2 hb02
    as_aux_lemma =>
      have hE3 := hE.below hb3
      have kP := fun wx (hb : Below w3.heap.size w3 wx) => hP3.only (Only.of_below hb) (Nat.not_le.2 hP3.lt)
      have vA := fun wx => value_any ta na ia xa ba1 hta wx
      have vB := fun wx => value_any tb nb ib xb bb htb wx
      replace kP := Lib.hid kP
      replace vA := Lib.hid vA
      replace vB := Lib.hid vB
      replace hE3 := Lib.hid hE3
      replace hb3 := Lib.hid hb3
      clear hP3
      go_upto_region 6 with fail
      go_cut [5] (fun q wx => ∃ b, q = .pointer (some ⟨b, 0, none⟩) ∧ Has wx b [.int .i64 (p : Int), .string col, .int .i64 (ta : Int), .bool na, .int .i64 ia, .string xa, .bool ba1, .int .i64 (tb : Int), .bool nb, .int .i64 ib, .string xb, .bool bb, .int .u32 (fa : Int), .int .u32 (fb : Int), .string od, .bool ds, .int .i64 lm] 48 ∧ Below w3.heap.size w3 wx)
      case first =>
        as_aux_lemma =>
          refine wp_region_part [7, 10, 21, 22, 23] [[], [], [0, 1], [], [2, 3]] [] (PX w3 (.agg #[.int .i64 (ta : Int), .bool na, .int .i64 ia, .string xa, .bool ba1]) (.agg #[.int .i64 (tb : Int), .bool nb, .int .i64 ib, .string xb, .bool bb]) [.int .i64 (p : Int), .string col, .int .i64 (ta : Int), .bool na, .int .i64 ia, .string xa, .bool ba1, .int .i64 (tb : Int), .bool nb, .int .i64 ib, .string xb, .bool bb, .int .u32 (fa : Int), .int .u32 (fb : Int), .string od, .bool ds, .int .i64 lm]) (by kernel_rfl) (by kernel_rfl) (by kernel_rfl) PX.start (PX.ex rfl (by simp [Value.oneCell'])) (fun Hf hx => ?_)
          obtain ⟨w', hx⟩ := hx
          obtain ⟨v0e, v1e, v2e, v4e, b, v3e, _⟩ := hx.done
          clear hx
          have hpI : (p : Int) < 256 := by omega
          refine part_chunk [] 7 _ _ _ (by kernel_rfl) (by kernel_rfl) (by decide) ?_
          simp only [List.take_succ_cons, List.take_zero, List.drop_succ_cons, List.drop_zero]
          iterate 1 (go_big_quiet_want; go_big_quiet_op; first | go_big_quiet_on | (refine ⟨_, fun _ _ => rfl, ?_⟩; go_big_quiet_on))
          go_big_quiet_want; go_big_quiet_op
          refine ⟨.int .u8 (p : Int), fun wx hx => by simp [go_sem, (kP.out wx (PX.at hx)).cell (o := 0) rfl], ?_⟩
          go_big_quiet_on
          go_big_quiet_want; go_big_quiet_op
          refine ⟨.int .i64 (p : Int), fun wx hx => by first | (simp [go_sem]; done) | (simp [go_sem]; omega), ?_⟩
          go_big_quiet_on
          iterate 1 (go_big_quiet_want; go_big_quiet_op; first | go_big_quiet_on | (refine ⟨_, fun _ _ => rfl, ?_⟩; go_big_quiet_on))
          go_big_quiet_want; go_big_quiet_op
          refine ⟨.string col, fun wx hx => by simp [go_sem, (kP.out wx (PX.at hx)).cell (o := 1) rfl], ?_⟩
          go_big_quiet_on
          iterate 1 (go_big_quiet_want; go_big_quiet_op; first | go_big_quiet_on | (refine ⟨_, fun _ _ => rfl, ?_⟩; go_big_quiet_on))
          go_big_quiet_want; go_big_quiet_op
          refine ⟨.agg #[.int .u8 (ta : Int), .bool na, .int .i64 ia, .string xa, .bool ba1], fun wx hx => by simp [go_sem, (kP.out wx (PX.at hx)).cell (o := 2) rfl, (kP.out wx (PX.at hx)).cell (o := 3) rfl, (kP.out wx (PX.at hx)).cell (o := 4) rfl, (kP.out wx (PX.at hx)).cell (o := 5) rfl, (kP.out wx (PX.at hx)).cell (o := 6) rfl], ?_⟩
          go_big_quiet_on
          refine wpQuiet_nil ?_
          refine part_step (s := 0) v0e (by go_simp; exact rfl) (by kernel_rfl) (by kernel_rfl) (fun H wx hs hn hp hc => ?_) ?_
          · refine callUpon_mk (f := 14) (args := #[.agg #[.int .u8 (ta : Int), .bool na, .int .i64 ia, .string xa, .bool ba1]]) (by simp [go_sem]) ?_
            exact (vA.out wx).mono fun e w'' ⟨he, h2⟩ => ⟨_, he, hc.lo h2⟩
          refine part_chunk [] 2 _ _ _ (by kernel_rfl) (by kernel_rfl) (by decide) ?_
          simp only [List.take_succ_cons, List.take_zero, List.drop_succ_cons, List.drop_zero]
          iterate 1 (go_big_quiet_want; go_big_quiet_op; first | go_big_quiet_on | (refine ⟨_, fun _ _ => rfl, ?_⟩; go_big_quiet_on))
          go_big_quiet_want; go_big_quiet_op
          refine ⟨.agg #[.int .u8 (tb : Int), .bool nb, .int .i64 ib, .string xb, .bool bb], fun wx hx => by simp [go_sem, (kP.out wx (PX.at hx)).cell (o := 7) rfl, (kP.out wx (PX.at hx)).cell (o := 8) rfl, (kP.out wx (PX.at hx)).cell (o := 9) rfl, (kP.out wx (PX.at hx)).cell (o := 10) rfl, (kP.out wx (PX.at hx)).cell (o := 11) rfl], ?_⟩
          go_big_quiet_on
          refine wpQuiet_nil ?_
          refine part_step (s := 1) v1e (by go_simp; exact rfl) (by kernel_rfl) (by kernel_rfl) (fun H wx hs hn hp hc => ?_) ?_
          · refine callUpon_mk (f := 14) (args := #[.agg #[.int .u8 (tb : Int), .bool nb, .int .i64 ib, .string xb, .bool bb]]) (by simp [go_sem]) ?_
            exact (vB.out wx).mono fun e w'' ⟨he, h2⟩ => ⟨_, he, hc.hi h2⟩
          refine part_chunk [] 10 _ _ _ (by kernel_rfl) (by kernel_rfl) (by decide) ?_
          simp only [List.take_succ_cons, List.take_zero, List.drop_succ_cons, List.drop_zero]
          iterate 1 (go_big_quiet_want; go_big_quiet_op; first | go_big_quiet_on | (refine ⟨_, fun _ _ => rfl, ?_⟩; go_big_quiet_on))
          go_big_quiet_want; go_big_quiet_op
          refine ⟨.int .u32 (fa : Int), fun wx hx => by simp [go_sem, (kP.out wx (PX.at hx)).cell (o := 12) rfl], ?_⟩
          go_big_quiet_on
          iterate 1 (go_big_quiet_want; go_big_quiet_op; first | go_big_quiet_on | (refine ⟨_, fun _ _ => rfl, ?_⟩; go_big_quiet_on))
          go_big_quiet_want; go_big_quiet_op
          refine ⟨.int .u32 (fb : Int), fun wx hx => by simp [go_sem, (kP.out wx (PX.at hx)).cell (o := 13) rfl], ?_⟩
          go_big_quiet_on
          iterate 1 (go_big_quiet_want; go_big_quiet_op; first | go_big_quiet_on | (refine ⟨_, fun _ _ => rfl, ?_⟩; go_big_quiet_on))
          go_big_quiet_want; go_big_quiet_op
          refine ⟨.string od, fun wx hx => by simp [go_sem, (kP.out wx (PX.at hx)).cell (o := 15) rfl], ?_⟩
          go_big_quiet_on
          iterate 1 (go_big_quiet_want; go_big_quiet_op; first | go_big_quiet_on | (refine ⟨_, fun _ _ => rfl, ?_⟩; go_big_quiet_on))
          go_big_quiet_want; go_big_quiet_op
          refine ⟨.bool ds, fun wx hx => by simp [go_sem, (kP.out wx (PX.at hx)).cell (o := 16) rfl], ?_⟩
          go_big_quiet_on
          iterate 1 (go_big_quiet_want; go_big_quiet_op; first | go_big_quiet_on | (refine ⟨_, fun _ _ => rfl, ?_⟩; go_big_quiet_on))
          go_big_quiet_want; go_big_quiet_op
          refine ⟨.int .i64 lm, fun wx hx => by simp [go_sem, (kP.out wx (PX.at hx)).cell (o := 17) rfl], ?_⟩
          go_big_quiet_on
          refine wpQuiet_nil ?_
          refine part_step (s := 2) v2e (by go_simp; exact rfl) (by kernel_rfl) (by kernel_rfl) (fun H wx hs hn hp hc => ?_) ?_
          · exact callUpon_value (build_P rfl rfl rfl rfl rfl rfl rfl rfl rfl rfl wx) hc.bld
          refine part_step (s := 3) v3e (by go_simp; exact rfl) (by kernel_rfl) (by kernel_rfl) (fun H wx hs hn hp hc => ?_) ?_
          · exact callUpon_value (by simp [go_sem, rpZ]; try rfl) (hc.new hn)
          refine part_step (s := 4) v4e (by go_simp; exact rfl) (by kernel_rfl) (by kernel_rfl) (fun H wx hs hn hp hc => ?_) ?_
          · have h3 := hp 3 (by simp)
            obtain ⟨u3, hu3⟩ : ∃ u, H 3 = some u := Option.isSome_iff_exists.1 h3
            have hu4 : u3 = .pointer (some ⟨b, 0, none⟩) := by rw [← v3e]; exact subP_eq hs hu3
            subst hu4
            obtain ⟨b2, e1, e2, hh⟩ := hc.c3 _ hu3
            cases e1
            have hn4 : H 4 = none := hn
            rw [hn4] at hh
            obtain ⟨w2', g0, g1, g2⟩ := rplan_store (new := [.int .i64 (p : Int), .string col, .int .i64 (ta : Int), .bool na, .int .i64 ia, .string xa, .bool ba1, .int .i64 (tb : Int), .bool nb, .int .i64 ib, .string xb, .bool bb, .int .u32 (fa : Int), .int .u32 (fb : Int), .string od, .bool ds, .int .i64 lm]) hh rfl rfl (by simp [Value.oneCell'])
            exact callUpon_storeA (.tmp 5) (.tmp 34) 48 rfl g0 (hc.sto hu3 g1 g2)
          intro wz hz
          obtain ⟨_, _, _, _, bz, e3z, hbz, HZ, hbZ⟩ := hz.done
          rw [v3e] at e3z
          cases e3z
          replace HZ := Lib.hid HZ
          replace hbZ := Lib.hid hbZ
          clear hz
          go_wp2_with fail
          go_meet
          exact ⟨_, rfl, HZ.out, hbZ.out⟩
      case rest =>
        rename World => w4
        obtain ⟨b, rfl, HR, hb4⟩ := hcut
        as_aux_lemma =>
          have HP4 := kP.out w4 hb4
          have hE4 := hE3.out.below hb4
          have hb04 := hb3.out.trans (hb4.mono hb3.out.size)
          have kP4 := fun wx (hb : Below w4.heap.size w4 wx) => HP4.only (Only.of_below hb) (Nat.not_le.2 HP4.lt)
          have kR4 := fun wx (hb : Below w4.heap.size w4 wx) => HR.only (Only.of_below hb) (Nat.not_le.2 HR.lt)
          have tl := htl.out
          rw [← hf2] at tl
          obtain ⟨T, hT⟩ : ∃ T, T = ba (textL p col ⟨ta, na, ia, xa, ba1⟩ ⟨tb, nb, ib, xb, bb⟩ fa fb fs od ds lm) := ⟨_, rfl⟩
          have cT : ∀ wx, Below w4.heap.size w4 wx → Calls Tryz.prog 15 #[.agg #[.int .u8 (p : Int), .string col, .int .u8 (ta : Int), .bool na, .int .i64 ia, .string xa, .bool ba1, .int .u8 (tb : Int), .bool nb, .int .i64 ib, .string xb, .bool bb, .int .u32 (fa : Int), .int .u32 (fb : Int), .pointer f2, .string od, .bool ds, .int .i64 lm]] wx (fun e w2 => e = .returned (.string T) ∧ Below w4.heap.size w4 w2) := fun wx hx => by
            rw [hT, ← hf2]
            exact (ptext_any (hE4.below hx) p col ta na ia xa ba1 tb nb ib xb bb fa fb hfa hfb f2 od ds lm hl0 hl1 hxa.out hxb.out tl).mono fun e w2 ⟨he, hb⟩ => ⟨he, hx.trans (hb.mono hx.size)⟩
          have cR : ∀ wx, Below w4.heap.size w4 wx → Calls Tryz.prog 16 #[.agg #[.int .i64 (p : Int), .string col, .int .i64 (ta : Int), .bool na, .int .i64 ia, .string xa, .bool ba1, .int .i64 (tb : Int), .bool nb, .int .i64 ib, .string xb, .bool bb, .int .u32 (fa : Int), .int .u32 (fb : Int), .string od, .bool ds, .int .i64 lm], .bool fs] wx (fun e w2 => e = .returned (.string T) ∧ Below w4.heap.size w4 w2) := fun wx hx => by
            rw [hT]
            exact (rptext_any p col ta na ia xa ba1 tb nb ib xb bb fa fb hfa hfb fs od ds lm hl0 hl1 hxa.out hxb.out htl.out).mono fun e w2 ⟨he, hb⟩ => ⟨he, hx.trans (hb.mono hx.size)⟩
          clear HP4 HR hb4 hE4 tl kP vA vB hb3 hE3
          replace kP4 := Lib.hid kP4
          replace kR4 := Lib.hid kR4
          replace cT := Lib.hid cT
          replace cR := Lib.hid cR
          replace hT := Lib.hid hT
          replace hb04 := Lib.hid hb04
          go_upto_region 7 with fail
          refine wp_region_quietC (C := fun wx => Below w4.heap.size w4 wx) (by kernel_rfl) (by kernel_rfl) (below_drew (Below.refl _ _)) ?_
          go_big_quiet_want
          refine quiet_loadA (.tmp 2) 43 rfl (.agg #[.int .u8 (p : Int), .string col, .int .u8 (ta : Int), .bool na, .int .i64 ia, .string xa, .bool ba1, .int .u8 (tb : Int), .bool nb, .int .i64 ib, .string xb, .bool bb, .int .u32 (fa : Int), .int .u32 (fb : Int), .pointer f2, .string od, .bool ds, .int .i64 lm]) (fun wx hx => plan_load (kP4.out wx hx) rfl) (by go_simp; exact rfl) ?_
          go_big_quiet_on
          go_big_quiet_want; go_big_quiet_op
          refine ⟨.string T, fun wx hx => cT.out wx hx, ?_⟩
          go_big_quiet_on
          go_big_quiet_want
          refine quiet_loadA (.tmp 5) 48 rfl (.agg #[.int .i64 (p : Int), .string col, .int .i64 (ta : Int), .bool na, .int .i64 ia, .string xa, .bool ba1, .int .i64 (tb : Int), .bool nb, .int .i64 ib, .string xb, .bool bb, .int .u32 (fa : Int), .int .u32 (fb : Int), .string od, .bool ds, .int .i64 lm]) (fun wx hx => rplan_load (kR4.out wx hx) rfl) (by go_simp; exact rfl) ?_
          go_big_quiet_on
          iterate 1 (go_big_quiet_want; go_big_quiet_op; first | go_big_quiet_on | (refine ⟨_, fun _ _ => rfl, ?_⟩; go_big_quiet_on))
          go_big_quiet_want; go_big_quiet_op
          refine ⟨.string T, fun wx hx => cR.out wx hx, ?_⟩
          go_big_quiet_on
          go_big_quiet_want; go_big_quiet_op
          refine ⟨.bool true, fun wx hx => by simp [go_sem], ?_⟩
          go_big_quiet_on
          iterate 1 (go_big_quiet_want; go_big_quiet_op; first | go_big_quiet_on | (refine ⟨_, fun _ _ => rfl, ?_⟩; go_big_quiet_on))
          refine wpQuiet_nil ?_
          intro w' hw'
          have hfin2 := Lib.hid (hfin.out w' (hb04.out.trans (hw'.mono hb04.out.size)))
          clear hw'
          go_wp2_with fail
          exact hfin2.out
end Go.Proofs.YtgnoikfmhncbmaaGreatDoor
