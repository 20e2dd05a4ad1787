/- Walks: the law PlanHolds. -/
import Derived.Test.YtgnoikfmhncbmaaGreatDoorU11
import Derived.Test.YtgnoikfmhncbmaaGreatDoorE3
set_option linter.unusedVariables false
set_option linter.unusedSimpArgs false
namespace Go.Proofs.YtgnoikfmhncbmaaGreatDoor
open Go.RowKit Go.Lib Go.BigFrame
set_option maxHeartbeats 16000000 in
set_option maxRecDepth 100000 in
theorem holds_walk (l : List Nd) (hl : ∀ x ∈ l, x.Fit) (a0 : Option Addr) (cap0 : Nat) (id : Nat) (hid : id < 4294967296) (a d : Int) (bs : ByteArray) (c : Bool) (nu : Nat) (ha : -2147483648 ≤ a ∧ a ≤ 2147483647) (hd : -2147483648 ≤ d ∧ d ≤ 2147483647) (hs : bs.size ≤ 9223372036854775807) (hu : nu < 256) (W : World) (hE : Env W) (rd : Rd W (.slice a0 l.length cap0) l.length (ndCells l)) :
    Calls Tryz.prog 6 #[.slice a0 l.length cap0, .agg #[.int .u32 (id : Int), .int .i32 a, .int .i32 d, .string bs, .bool c, .int .u8 (nu : Int)]] W (RPost W (.bool true)) := by
  generalize hpost : RPost W (.bool true) = post
  have hfin : ∀ w', Below W.heap.size W w' → post (.returned (.bool true)) w' := fun w' hb => by rw [← hpost]; exact ⟨rfl, hb⟩
  replace hpost := Lib.hid hpost
  replace hfin := Lib.hid hfin
  obtain ⟨W0, hW0⟩ : ∃ W0, W0 = W.alloc (.cells #[.int .u32 (id : Int), .int .i32 a, .int .i32 d, .string bs, .bool c, .int .u8 (nu : Int)] 53) := ⟨_, rfl⟩
  have hR : Has W0 W.heap.size [.int .u32 (id : Int), .int .i32 a, .int .i32 d, .string bs, .bool c, .int .u8 (nu : Int)] 53 := by rw [hW0]; exact Has.new W _ _
  have hb0 : Below W.heap.size W W0 := by rw [hW0]; exact (Below.refl _ _).alloc (Nat.le_refl _) _
  replace hW0 := Lib.hid hW0.symm
  obtain ⟨n, hn⟩ : ∃ n, l.length = n := ⟨_, rfl⟩
  have htr : ∀ wx, Below W.heap.size W wx → Calls Tryz.prog 9 #[.slice a0 n cap0, .int .i64 0] wx (TreP (treeO l 24 0) wx) := fun wx hb => by rw [← hn]; exact tree_any l hl 24 0 _ wx (rd.kept hb) (by omega) (by omega)
  have haw := Lib.hid (awake_any W0 (hE.below hb0))
  rw [hn]
  replace htr := Lib.hid htr
  replace hn := Lib.hid hn
  replace hR := Lib.hid hR
  replace hb0 := Lib.hid hb0
  replace ha := Lib.hid ha
  replace hd := Lib.hid hd
  replace hs := Lib.hid hs
  replace hu := Lib.hid hu
  replace hid := Lib.hid hid
  clear rd
  go_enter Tryz.func6, Tryz.ntmps6
  go_upto_region 1 with fail
  rw [hW0.out]
  go_wp2_with fail
  refine haw.out.mono ?_
  rintro e w1 ⟨rfl, hb1⟩
  have hR1 := hR.out.only (Only.of_below hb1) (Nat.not_le.2 hR.out.lt)
  have hb01 := hb0.out.trans (hb1.mono hb0.out.size)
  have htr1 := Lib.hid (htr.out w1 hb01)
  clear hb1 hb0 hR hW0 haw
  replace hR1 := Lib.hid hR1
  replace hb01 := Lib.hid hb01
  go_wp2_with fail
  refine htr1.out.mono ?_
  rintro e w3 ⟨s, rfl, hT, hb2⟩
  have hb03 := hb01.out.trans (hb2.mono hb01.out.size)
  have hR3 := hR1.out.only (Only.of_below hb2) (Nat.not_le.2 hR1.out.lt)
  obtain ⟨ps, hps⟩ := AT.isP s
  rw [hps]
  have hfs : s.Fit := fit_same hT.sm (treeO_fit l hl 24 0)
  have hss : s.size ≤ 200000 := by rw [← size_sm hT.sm]; exact treeO_size24 l
  have hns := hT.nd
  have hS3 : s.At w3 := hT.at'
  have hE3 := hE.below hb03
  have tb := Lib.hid (table_any 0 (by decide) w3)
  clear hb2 hb01 hR1 htr htr1 hT hE hl
  replace hR3 := Lib.hid hR3
  replace hb03 := Lib.hid hb03
  replace hS3 := Lib.hid hS3
  replace hps := Lib.hid hps
  replace hfs := Lib.hid hfs
  replace hss := Lib.hid hss
  replace hns := Lib.hid hns
  replace hE3 := Lib.hid hE3
  go_wp2_with fail
  refine tb.out.mono ?_
  rintro e w4 ⟨ca, cc, ia, ic, rfl, hrc, _, hb4⟩
  dsimp only [tabI]
  have hS4 := hS3.out.below hb4
  have hR4 := hR3.out.only (Only.of_below hb4) (Nat.not_le.2 hR3.out.lt)
  have hb04 := hb03.out.trans (hb4.mono hb03.out.size)
  have hE4 := hE3.out.below hb4
  obtain ⟨il, hil⟩ : ∃ il, (digD 0).length = il := ⟨_, rfl⟩
  rw [hil]
  clear hS3 hR3 hb03 hE3 hb4 tb hil
  replace hS4 := Lib.hid hS4
  replace hR4 := Lib.hid hR4
  replace hb04 := Lib.hid hb04
  replace hE4 := Lib.hid hE4
  replace hrc := Lib.hid hrc
  go_upto_region 5 with fail
  obtain ⟨W5, hW5⟩ : ∃ W5, W5 = w4.alloc (.cells #[.string tagS, .int .i64 1, .slice ca 4 cc, .slice ia il ic, .int .u64 0, .int .u64 0] 59) := ⟨_, rfl⟩
  have hB5 : Below w4.heap.size w4 W5 := by rw [hW5]; exact (Below.refl _ _).alloc (Nat.le_refl _) _
  have HT : Has W5 w4.heap.size [.string tagS, .int .i64 1, .slice ca 4 cc, .slice ia il ic, .int .u64 0, .int .u64 0] 59 := by rw [hW5]; exact Has.new w4 _ _
  rw [← hW5]
  clear hW5
  have hS5 := hS4.out.below hB5
  have hR5 := hR4.out.only (Only.of_below hB5) (Nat.not_le.2 hR4.out.lt)
  have hb05 := hb04.out.trans (hB5.mono hb04.out.size)
  have hE5 := hE4.out.below hB5
  have hrc5 := hrc.out.kept hB5
  clear hS4 hR4 hb04 hE4 hrc hB5
  have ck := check_any (root := s) hS5 hns.out (Nat.le_trans hss.out (by decide)) tagS 1 (colsT 4) ca cc ia il ic hrc5 (by decide)
  obtain ⟨es, hes⟩ : ∃ e, checkP (colsT 4) s = e := ⟨_, rfl⟩
  rw [hps.out, hes] at ck
  unfold tabI at ck
  have kT := fun wx (hb : Below W5.heap.size W5 wx) => HT.only (Only.of_below hb) (Nat.not_le.2 HT.lt)
  have kR := fun wx (hb : Below W5.heap.size W5 wx) => hR5.only (Only.of_below hb) (Nat.not_le.2 hR5.lt)
  have kS := fun wx (hb : Below W5.heap.size W5 wx) => hS5.below hb
  have kE := fun wx (hb : Below W5.heap.size W5 wx) => hE5.below hb
  have kF := fun wx (hb : Below W5.heap.size W5 wx) => hfin.out wx (hb05.trans (hb.mono hb05.size))
  have krc := fun wx (hb : Below W5.heap.size W5 wx) => hrc5.kept hb
  have t0 := HT.cell (o := 0) rfl
  have t1 := HT.cell (o := 1) rfl
  have t2 := HT.cell (o := 2) rfl
  have t3 := HT.cell (o := 3) rfl
  have t4 := HT.cell (o := 4) rfl
  have t5 := HT.cell (o := 5) rfl
  clear HT hR5 hS5 hE5 hfin hb05 hrc5
  replace ck := Lib.hid ck
  replace hes := Lib.hid hes
  replace kT := Lib.hid kT
  replace kR := Lib.hid kR
  replace kS := Lib.hid kS
  replace kE := Lib.hid kE
  replace kF := Lib.hid kF
  replace krc := Lib.hid krc
  go_wp2_with fail
  refine ck.out.mono ?_
  rintro e w6 ⟨rfl, hb6⟩
  clear t0 t1 t2 t3 t4 t5 ck
  by_cases g1 : ¬ (es = 0)
  · have fin6 := Lib.hid (kF.out w6 hb6)
    have n1 : ((es : Int) != 0) = true := by simp; exact g1
    clear hb6 g1
    go_wp2_with fail
    exact fin6.out
  replace g1 := Classical.not_not.1 g1
  subst g1
  have n1 : (((0 : Nat) : Int) != 0) = false := rfl
  have wS := wf_check hes.out
  obtain ⟨LL, hLL⟩ : ∃ LL, rowL a d bs c nu = LL := ⟨_, rfl⟩
  have hlen : LL.length = 4 := by rw [← hLL]; simp [rowL]
  have hG : ∀ k, k < 4 → (LL.getD k RV0).ty = tyC k ∧ (LL.getD k RV0).tx.size ≤ 10 ∧ ((LL.getD k RV0).nl = false → formP (LL.getD k RV0) = 0) := fun k hk => by
    have e : LL.getD k RV0 = rowV a d bs c nu k := by
      rw [← hLL]
      unfold rowL
      rw [List.getD, List.getElem?_map, List.getElem?_range (by omega)]; rfl
    rw [e]; exact row_form ha.out hd.out k hk
  have htx : ∀ v ∈ LL, v.tx.size ≤ 140737488351232 := fun v hv => by
    obtain ⟨k, hk, rfl⟩ := List.mem_iff_getElem.1 hv
    have := (hG k (by omega)).2.1
    rw [List.getD, List.getElem?_eq_getElem hk] at this
    exact Nat.le_trans this (by decide)
  have hty : ∀ k, k < (colsT 4).length → (LL.getD k RV0).nl = false → (LL.getD k RV0).ty = ((colsT 4).getD k CV0).ty := fun k hk _ => by
    rw [colsT_len] at hk
    rw [(hG k hk).1]
    obtain rfl | rfl | rfl | rfl : k = 0 ∨ k = 1 ∨ k = 2 ∨ k = 3 := by omega
    all_goals rfl
  obtain ⟨z, hz⟩ : ∃ z, evB (colsT 4) LL id s = z := ⟨_, rfl⟩
  have cE : ∀ wx b, Below W5.heap.size W5 wx → Has wx b (vCells LL) 28 → Calls Tryz.prog 22 #[.pointer ps, .agg #[.string tagS, .int .i64 1, .slice ca 4 cc, .slice ia il ic, .int .u64 0, .int .u64 0], .int .u32 (id : Int), .slice (some ⟨b, 0, none⟩) 4 4] wx (RPost wx (.tuple #[.bool z, .int .i64 0])) := fun wx b hx hh => by
    have := eval_any (root := s) (kS.out wx hx) hns.out (Nat.le_trans hss.out (by decide)) hfs.out tagS 1 (colsT 4) ca cc ia il ic (krc.out wx hx) (by decide) hes.out id hid.out LL (some ⟨b, 0, none⟩) 4 (by rw [hlen]; exact Rd.of_has hh 4 4) (by rw [hlen]; rfl) hty htx
    rw [hps.out, hz, hlen] at this
    exact this
  have cV : ∀ wx, Calls Tryz.prog 19 #[.agg #[.int .u32 (id : Int), .int .i32 a, .int .i32 d, .string bs, .bool c, .int .u8 (nu : Int)]] wx (ValsP LL wx) := fun wx => by rw [← hLL]; exact rowvalues_any id a d bs c nu ha.out hd.out hs.out hu.out wx
  clear hty
  replace hb6 := Lib.hid hb6
  replace wS := Lib.hid wS
  replace hG := Lib.hid hG
  replace htx := Lib.hid htx
  replace hz := Lib.hid hz
  replace cE := Lib.hid cE
  replace cV := Lib.hid cV
  replace hlen := Lib.hid hlen
  replace hLL := Lib.hid hLL
  go_upto_region 7 with fail
  refine wp_region_part [5, 6] [[], [0]] [] (ChC (EvC w6 LL z) 2) (by kernel_rfl) (by kernel_rfl) (by kernel_rfl) (ChC.start (show Below w6.heap.size w6 w6.drew from below_drew (Below.refl _ _))) (ChC.ex EvC.ex) (fun Hf hx => ?_)
  obtain ⟨w', hx⟩ := hx
  obtain ⟨⟨bq, v0e⟩, v1e, _⟩ := hx.done
  clear hx
  have kA : ∀ {nds : List Nat} {wx : World}, clsP (ChC (EvC w6 LL z) 2) Hf nds wx → Below W5.heap.size W5 wx := fun h => by
    obtain ⟨vs, _, h2, _⟩ := ChC.at h
    exact hb6.out.trans (h2.below.mono hb6.out.size)
  refine part_chunk [] 5 0 _ _ (by kernel_rfl) (by kernel_rfl) (by decide) ?_
  simp only [List.take_succ_cons, List.take_zero, List.drop_succ_cons, List.drop_zero]
  iterate 1 (go_big_quiet_want; go_big_quiet_op; first | go_big_quiet_on | (refine ⟨_, fun _ _ => rfl, ?_⟩; go_big_quiet_on))
  go_big_quiet_want; go_big_quiet_op
  refine ⟨.agg #[.string tagS, .int .i64 1, .slice ca 4 cc, .slice ia il ic, .int .u64 0, .int .u64 0], fun wx hx => by simp [go_sem, (kT.out wx (kA hx)).cell (o := 0) rfl, (kT.out wx (kA hx)).cell (o := 1) rfl, (kT.out wx (kA hx)).cell (o := 2) rfl, (kT.out wx (kA hx)).cell (o := 3) rfl, (kT.out wx (kA hx)).cell (o := 4) rfl, (kT.out wx (kA hx)).cell (o := 5) rfl], ?_⟩
  go_big_quiet_on
  iterate 1 (go_big_quiet_want; go_big_quiet_op; first | go_big_quiet_on | (refine ⟨_, fun _ _ => rfl, ?_⟩; go_big_quiet_on))
  go_big_quiet_want; go_big_quiet_op
  refine ⟨.int .u32 (id : Int), fun wx hx => by simp [go_sem, (kR.out wx (kA hx)).cell (o := 0) rfl], ?_⟩
  go_big_quiet_on
  go_big_quiet_want; go_big_quiet_op
  refine ⟨.agg #[.int .u32 (id : Int), .int .i32 a, .int .i32 d, .string bs, .bool c, .int .u8 (nu : Int)], fun wx hx => by simp [go_sem, (kR.out wx (kA hx)).cell (o := 0) rfl, (kR.out wx (kA hx)).cell (o := 1) rfl, (kR.out wx (kA hx)).cell (o := 2) rfl, (kR.out wx (kA hx)).cell (o := 3) rfl, (kR.out wx (kA hx)).cell (o := 4) rfl, (kR.out wx (kA hx)).cell (o := 5) rfl], ?_⟩
  go_big_quiet_on
  refine wpQuiet_nil ?_
  refine part_step (s := 0) v0e (by go_simp; exact rfl) (by kernel_rfl) (by kernel_rfl) (fun H wx hs' hn' hp' hc' => ?_) ?_
  · obtain ⟨vs', hl', hPh, _, hk'⟩ := ChC.step hc' hn' (.inl rfl) (by decide) hs'
    match vs', hl', hPh with
    | [], _, hPh =>
      refine callUpon_mk (f := 19) (args := #[.agg #[.int .u32 (id : Int), .int .i32 a, .int .i32 d, .string bs, .bool c, .int .u8 (nu : Int)]]) (by simp [go_sem]) ?_
      exact (cV.out wx).mono fun e w'' hv => by
        obtain ⟨b, he, hh, hbb, hw⟩ := hv
        exact ⟨_, he, hk' _ _ ⟨b, rfl, hh, Nat.le_trans hPh.size hbb, hPh.trans (hw.mono hPh.size)⟩⟩
  refine part_step (s := 1) v1e (by go_simp; exact rfl) (by kernel_rfl) (by kernel_rfl) (fun H wx hs' hn' hp' hc' => ?_) ?_
  · obtain ⟨vs', hl', hPh, hj', hk'⟩ := ChC.step hc' hn' (.inr (hp' 0 (by simp))) (by decide) hs'
    match vs', hl', hPh, hj', hk' with
    | [r0], _, hPh, hj', hk' =>
      have hr0 := hj' 0 r0 rfl
      obtain ⟨b, hb, hh, hbb, hw⟩ := hPh
      rw [v0e] at hr0
      have eb : bq = b := by rw [hb] at hr0; simpa using hr0
      subst eb
      refine callUpon_mk (f := 22) (args := #[.pointer ps, .agg #[.string tagS, .int .i64 1, .slice ca 4 cc, .slice ia il ic, .int .u64 0, .int .u64 0], .int .u32 (id : Int), .slice (some ⟨bq, 0, none⟩) 4 4]) (by simp [go_sem]) ?_
      exact (cE.out wx bq (hb6.out.trans (hw.mono hb6.out.size)) hh).mono fun e w'' ⟨he, hw2⟩ => ⟨_, he, hk' _ _ ⟨⟨bq, hb⟩, rfl, hw.trans (hw2.mono hw.size)⟩⟩
  refine part_chunk [] 5 _ _ _ (by kernel_rfl) (by kernel_rfl) (by decide) ?_
  simp only [List.take_succ_cons, List.take_zero, List.drop_succ_cons, List.drop_zero]
  iterate 5 (go_big_quiet_want; go_big_quiet_op; first | go_big_quiet_on | (refine ⟨_, fun _ _ => rfl, ?_⟩; go_big_quiet_on))
  refine wpQuiet_nil ?_
  intro w7 hz7
  obtain ⟨_, _, hb67⟩ := hz7.done
  have hb7 := hb6.out.trans (hb67.mono hb6.out.size)
  clear hz7 v0e v1e hb67 kA hb6 n1
  replace hb7 := Lib.hid hb7
  have n2 : (((0 : Nat) : Int) != 0) = false := rfl
  have n3 : ((0 : Int) != 0) = false := rfl
  go_upto_region 10 with fail
  clear n2 n3
  have hwi : IntKind.i64.wrap (id : Int) = (id : Int) := by
    have := hid.out
    unfold IntKind.wrap
    simp [IntKind.bits, IntKind.signed]
    omega
  refine wp_region_part [1, 5, 6, 7] [[], [0], [1], [2]] [] (ChC (ApC w7 LL (id : Int)) 4) (by kernel_rfl) (by kernel_rfl) (by kernel_rfl) (ChC.start (show Below w7.heap.size w7 w7.drew from below_drew (Below.refl _ _))) (ChC.ex (ApC.ex hlen.out)) (fun Hf hx => ?_)
  obtain ⟨w', hx⟩ := hx
  obtain ⟨⟨bq, v0e⟩, v1e, ⟨gq, v2e⟩, sq, cq, v3e, _⟩ := hx.done
  clear hx
  obtain ⟨nV, cV2, hnV, hsl⟩ : ∃ nV c2 : Nat, nV = 5 ∧ Value.slice sq 5 cq = Value.slice sq nV c2 := ⟨5, cq, rfl, rfl⟩
  rw [hsl] at v3e
  replace hsl := Lib.hid hsl
  replace hnV := Lib.hid hnV
  have kA : ∀ {nds : List Nat} {wx : World}, clsP (ChC (ApC w7 LL (id : Int)) 4) Hf nds wx → Below W5.heap.size W5 wx := fun h => by
    obtain ⟨vs, _, h2, _⟩ := ChC.at h
    exact hb7.out.trans (h2.below.mono hb7.out.size)
  refine part_chunk [] 1 0 _ _ (by kernel_rfl) (by kernel_rfl) (by decide) ?_
  simp only [List.take_succ_cons, List.take_zero, List.drop_succ_cons, List.drop_zero]
  go_big_quiet_want; go_big_quiet_op
  refine ⟨.agg #[.int .u32 (id : Int), .int .i32 a, .int .i32 d, .string bs, .bool c, .int .u8 (nu : Int)], fun wx hx => by simp [go_sem, (kR.out wx (kA hx)).cell (o := 0) rfl, (kR.out wx (kA hx)).cell (o := 1) rfl, (kR.out wx (kA hx)).cell (o := 2) rfl, (kR.out wx (kA hx)).cell (o := 3) rfl, (kR.out wx (kA hx)).cell (o := 4) rfl, (kR.out wx (kA hx)).cell (o := 5) rfl], ?_⟩
  go_big_quiet_on
  refine wpQuiet_nil ?_
  refine part_step (s := 0) v0e (by go_simp; exact rfl) (by kernel_rfl) (by kernel_rfl) (fun H wx hs' hn' hp' hc' => ?_) ?_
  · obtain ⟨vs', hl', hPh, _, hk'⟩ := ChC.step hc' hn' (.inl rfl) (by decide) hs'
    match vs', hl', hPh with
    | [], _, hPh =>
      refine callUpon_mk (f := 19) (args := #[.agg #[.int .u32 (id : Int), .int .i32 a, .int .i32 d, .string bs, .bool c, .int .u8 (nu : Int)]]) (by simp [go_sem]) ?_
      exact (cV.out wx).mono fun e w'' hv => by
        obtain ⟨b, he, hh, hbb, hw⟩ := hv
        subst he
        exact ⟨_, rfl, hk' _ _ ⟨b, rfl, own_has hh (by rw [vc_len, hlen.out]), Nat.le_trans hPh.size hbb, hPh.trans (hw.mono hPh.size)⟩⟩
  refine part_chunk [] 3 _ _ _ (by kernel_rfl) (by kernel_rfl) (by decide) ?_
  simp only [List.take_succ_cons, List.take_zero, List.drop_succ_cons, List.drop_zero]
  iterate 1 (go_big_quiet_want; go_big_quiet_op; first | go_big_quiet_on | (refine ⟨_, fun _ _ => rfl, ?_⟩; go_big_quiet_on))
  go_big_quiet_want; go_big_quiet_op
  refine ⟨.int .u32 (id : Int), fun wx hx => by simp [go_sem, (kR.out wx (kA hx)).cell (o := 0) rfl], ?_⟩
  go_big_quiet_on
  go_big_quiet_want; go_big_quiet_op
  refine ⟨.int .i64 (id : Int), fun wx hx => by first | rfl | (simp [hwi]; done), ?_⟩
  go_big_quiet_on
  refine wpQuiet_nil ?_
  refine part_step (s := 1) v1e (by go_simp; exact rfl) (by kernel_rfl) (by kernel_rfl) (fun H wx hs' hn' hp' hc' => ?_) ?_
  · obtain ⟨vs', hl', hPh, _, hk'⟩ := ChC.step hc' hn' (.inr (hp' 0 (by simp))) (by decide) hs'
    match vs', hl', hPh, hk' with
    | [r0], _, hPh, hk' =>
      obtain ⟨b, hb, hh, hbb, hw⟩ := hPh
      refine callUpon_mk (f := 23) (args := #[.int .i64 (id : Int)]) (by simp [go_sem]) ?_
      exact (integer_same (id : Int) wx).mono fun e w'' ⟨he, hw2⟩ => ⟨_, he, hk' _ _ (by
        subst hw2
        exact ⟨b, hb, hh.alloc _, hbb, hw.alloc hw.size _, rfl⟩)⟩
  refine part_step (s := 2) v2e (by go_simp; exact rfl) (by kernel_rfl) (by kernel_rfl) (fun H wx hs' hn' hp' hc' => ?_) ?_
  · obtain ⟨vs', hl', hPh, _, hk'⟩ := ChC.step hc' hn' (.inr (hp' 1 (by simp))) (by decide) hs'
    match vs', hl', hPh, hk' with
    | [r0, x0], _, hPh, hk' =>
      obtain ⟨b, hb, hh, hbb, hw, hx0⟩ := hPh
      refine callUpon_value (v := .slice (some ⟨wx.heap.size, 0, none⟩) 1 1) (w' := wx.alloc (.cells (vInt (id : Int)).cells.toArray 28)) (by simp [go_sem]; try rfl) (hk' _ _ ⟨b, hb, hh.alloc _, hbb, hw.alloc hw.size _, hx0, wx.heap.size, rfl, Has.new wx _ _⟩)
  refine part_step (s := 3) v3e (by go_simp; exact rfl) (by kernel_rfl) (by kernel_rfl) (fun H wx hs' hn' hp' hc' => ?_) ?_
  · obtain ⟨vs', hl', hPh, hj', hk'⟩ := ChC.step hc' hn' (.inr (hp' 2 (by simp))) (by decide) hs'
    match vs', hl', hPh, hj', hk' with
    | [r0, x0, s0], _, hPh, hj', hk' =>
      have e0 := hj' 0 r0 rfl
      have e2 := hj' 2 s0 rfl
      rw [v0e] at e0
      rw [v2e] at e2
      subst e0 e2
      obtain ⟨y, w'', hr, h2⟩ := ApC.app 65 hlen.out hPh
      exact callUpon_app (.tmp 37) (.tmp 42) 65 rfl hr (hk' _ _ h2)
  refine part_chunk [] 2 _ _ _ (by kernel_rfl) (by kernel_rfl) (by decide) ?_
  simp only [List.take_succ_cons, List.take_zero, List.drop_succ_cons, List.drop_zero]
  iterate 2 (go_big_quiet_want; go_big_quiet_op; first | go_big_quiet_on | (refine ⟨_, fun _ _ => rfl, ?_⟩; go_big_quiet_on))
  refine wpQuiet_nil ?_
  intro w8 hz8
  obtain ⟨_, _, _, sa, cV, v3y, rdV, hb78⟩ := hz8.done
  rw [v3e, ← hsl.out] at v3y
  have e1 : sq = sa := by simpa using congrArg (fun q => match q with | Value.slice a _ _ => a | _ => none) v3y
  have e2 : cq = cV := by simpa using congrArg (fun q => match q with | Value.slice _ _ c => c | _ => 0) v3y
  subst e1 e2
  have hb58 := hb7.out.trans (hb78.mono hb7.out.size)
  clear hz8 v0e v1e v2e v3e v3y hb78 kA hwi hb7
  replace hsl := hsl.out
  replace hnV := hnV.out
  rw [hsl] at rdV
  have hcell : ∀ k, k < nV → ∃ b off, sq = some ⟨b, off, none⟩ ∧ ∀ wx, Below w8.heap.size w8 wx → ∀ j y, ((LL ++ [vInt (id : Int)]).getD k RV0).cells[j]? = some y → wx.cell? ⟨b, off + k * 5 + j, none⟩ = some y := fun k hk => by
    obtain ⟨b, off, cap, hv, hc⟩ := rdV.cells (by omega)
    simp only [Value.slice.injEq] at hv
    refine ⟨b, off, hv.1, fun wx hb j y hj => ?_⟩
    have := cellk hb (hc _ _ (vc_get (by rw [List.length_append, hlen.out]; show k < 5; omega) j y hj))
    rw [← Nat.add_assoc] at this
    exact this
  have hG5 : ∀ k, k < nV → ((LL ++ [vInt (id : Int)]).getD k RV0).tx.size ≤ 10 ∧ (k < 4 → (LL ++ [vInt (id : Int)]).getD k RV0 = LL.getD k RV0) ∧ (k = 4 → (LL ++ [vInt (id : Int)]).getD k RV0 = vInt (id : Int)) := fun k hk => by
    have e1 : k < 4 → (LL ++ [vInt (id : Int)]).getD k RV0 = LL.getD k RV0 := fun h => by
      rw [List.getD, List.getElem?_append_left (by rw [hlen.out]; exact h)]; rfl
    have e2 : k = 4 → (LL ++ [vInt (id : Int)]).getD k RV0 = vInt (id : Int) := fun h => by
      rw [List.getD, List.getElem?_append_right (by rw [hlen.out]; omega), hlen.out, h]; rfl
    refine ⟨?_, e1, e2⟩
    by_cases h : k < 4
    · rw [e1 h]; exact (hG.out k h).2.1
    · rw [e2 (by omega)]; exact Nat.zero_le _
  generalize (LL ++ [vInt (id : Int)]).getD = G at *
  clear rdV hsl
  have hn4 : nV ≤ 5 := by omega
  replace hcell := Lib.hid hcell
  replace hG5 := Lib.hid hG5
  replace hb58 := Lib.hid hb58
  replace hn4 := Lib.hid hn4
  replace hnV := Lib.hid hnV
  go_wp2_with fail
  go_loopw [45] (fun i wr => ∃ k : Nat, k ≤ nV ∧ i = .int .i64 (k : Int) ∧ Below w8.heap.size w8 wr) (fun i _ => nV - (RowKit.intOf i).toNat)
  case atStart => exact ⟨0, by omega, rfl, Below.refl _ _⟩
  case round =>
    obtain ⟨k, hk, rfl, hB⟩ := hrel
    by_cases hlt : ¬ (k < nV)
    · have hkn : k = nV := by omega
      subst hkn
      have k1 : ¬ (k : Int) < (k : Int) := by omega
      have kd : decide ((k : Int) < (k : Int)) = false := decide_eq_false k1
      have hfn := Lib.hid (kF.out wr (hb58.out.trans (hB.mono hb58.out.size)))
      clear hB
      go_wp2_with fail
      exact hfn.out
    replace hlt := Classical.not_not.1 hlt
    have k1 : (k : Int) < (nV : Int) := by omega
    have hn4' := hn4.out
    have kw := Lib.hid (show wrap64 ((k : Int) + 1) = ((k + 1 : Nat) : Int) from by unfold wrap64; omega)
    have k8 : IntKind.u8.wrap (k : Int) = (k : Int) := by rw [IntKind.wrap_u8']; omega
    have kd : decide ((k : Int) < (nV : Int)) = true := decide_eq_true k1
    have k0 : (0 : Int) ≤ (k : Int) := by omega
    obtain ⟨b, off, rfl, hc⟩ := hcell.out k hlt
    obtain ⟨g2, ga, gb⟩ := hG5.out k hlt
    have hkind := kind_col k (by omega)
    have hcl := Lib.hid (fun wx => column_any k (by omega) wx)
    obtain ⟨v, hv⟩ : ∃ v, G k RV0 = v := ⟨_, rfl⟩
    rw [hv] at hc g2 ga gb
    have hc2 := hc wr hB
    have c0 : wr.cell? ⟨b, off + k * 5, none⟩ = some (.int .u8 (v.ty : Int)) := hc2 0 _ rfl
    have c1 : wr.cell? ⟨b, off + k * 5 + 1, none⟩ = some (.bool v.nl) := hc2 1 _ rfl
    have c2 : wr.cell? ⟨b, off + k * 5 + 2, none⟩ = some (.int .i64 v.n) := hc2 2 _ rfl
    have c3 : wr.cell? ⟨b, off + k * 5 + 3, none⟩ = some (.string v.tx) := hc2 3 _ rfl
    have c4 : wr.cell? ⟨b, off + k * 5 + 4, none⟩ = some (.bool v.b) := hc2 4 _ rfl
    have hH : k < 4 → ((bndP (colN k) s).lo.nl = false ∨ (bndP (colN k) s).hi.nl = false) → okB (bndP (colN k) s).lo = true → okB (bndP (colN k) s).hi = true → (z = true → withinP v (bndP (colN k) s).lo (bndP (colN k) s).hi = true) ∧ ((bndP (colN k) s).ex = true → withinP v (bndP (colN k) s).lo (bndP (colN k) s).hi = true → z = true) := fun h4 hne o1 o2 => by
      have hsn : s.nil? = false := by
        cases s with
        | nil => rcases hne with h | h <;> cases h
        | node _ _ _ _ _ _ => rfl
      have hz2 : (z = true) ↔ evP (colV (colsT 4) LL id) s = 2 := by rw [← hz.out]; unfold evB; rw [hsn]; simp
      have hR := colV_col LL id k h4
      rw [← ga h4] at hR
      obtain ⟨q1, q2, q3⟩ := hG.out k h4
      rw [← ga h4] at q1 q3
      have e4 : tyC k = v.ty := q1.symm
      rw [e4] at hkind
      have := holds_row hkind (colV (colsT 4) LL id) hR rfl q3 wS.out hsn o1 o2 hne
      exact ⟨fun h => this.1 (hz2.1 h), fun hx hi => hz2.2 (this.2 hx hi)⟩
    have hI : k = 4 → ((bndP (colN k) s).lo.nl = false ∨ (bndP (colN k) s).hi.nl = false) → (z = true → in4 v.n (bndP (colN k) s).lo (bndP (colN k) s).hi = true) ∧ ((bndP (colN k) s).ex = true → in4 v.n (bndP (colN k) s).lo (bndP (colN k) s).hi = true → z = true) := fun h4 hne => by
      have hsn : s.nil? = false := by
        cases s with
        | nil => rcases hne with h | h <;> cases h
        | node _ _ _ _ _ _ => rfl
      have hz2 : (z = true) ↔ evP (colV (colsT 4) LL id) s = 2 := by rw [← hz.out]; unfold evB; rw [hsn]; simp
      have hvn : v.n = (id : Int) := by rw [gb h4]; rfl
      subst h4
      have := holds_id (t := s) hkind (colV (colsT 4) LL id) (colV_id _ LL id) wS.out hsn
      rw [hvn]
      exact ⟨fun h => this.1 (hz2.1 h), fun hx hi => hz2.2 (this.2 hx hi)⟩
    obtain ⟨cn, hcn⟩ : ∃ cn, colN k = cn := ⟨_, rfl⟩
    rw [hcn] at hcl hH hI
    have bdp := bndP.bd cn hfs.out
    have hBr := hb58.out.trans (hB.mono hb58.out.size)
    have qS := fun wx (hx : Below W5.heap.size W5 wx) => bounds_any s cn wx (kS.out wx hx) hns.out hfs.out (Nat.le_trans hss.out (by decide)) (kE.out wx hx)
    rw [hps.out] at qS
    obtain ⟨⟨lo, hi, ex⟩, hp⟩ : ∃ y, bndP cn s = y := ⟨_, rfl⟩
    rw [hp] at qS bdp hH hI
    unfold bndV at qS
    dsimp only [RV.val] at qS hH hI
    obtain ⟨wv, hwv⟩ : ∃ y, withinP v lo hi = y := ⟨_, rfl⟩
    rw [hwv] at hH
    clear hc hc2 hcn hkind hn4' ga gb hv hp
    replace hH := Lib.hid hH
    replace hI := Lib.hid hI
    replace bdp := Lib.hid bdp
    replace qS := Lib.hid qS
    replace g2 := Lib.hid g2
    obtain ⟨W9, hW9⟩ : ∃ W9, W9 = wr.alloc (.cells #[.int .u8 (v.ty : Int), .bool v.nl, .int .i64 v.n, .string v.tx, .bool v.b] 28) := ⟨_, rfl⟩
    have hb9 : Below wr.heap.size wr W9 := by rw [hW9]; exact (Below.refl _ _).alloc (Nat.le_refl _) _
    have Hv : Has W9 wr.heap.size v.cells 28 := by rw [hW9]; exact Has.new wr v.cells _
    replace hW9 := Lib.hid hW9.symm
    replace hb9 := Lib.hid hb9
    replace Hv := Lib.hid Hv
    replace hB := Lib.hid hB
    replace hBr := Lib.hid hBr
    go_upto_region 13 with fail
    rw [hW9.out]
    clear c0 c1 c2 c3 c4
    have hcl9 := Lib.hid (hcl.out W9)
    go_wp2_with fail
    refine hcl9.out.mono ?_
    rintro e w10 ⟨rfl, hb10⟩
    have hbw10 := hb9.out.trans (hb10.mono hb9.out.size)
    have Hv10 := Hv.out.only (Only.of_below hb10) (Nat.not_le.2 Hv.out.lt)
    have cb := Lib.hid (qS.out w10 (hBr.out.trans (hbw10.mono hBr.out.size)))
    clear hb10 hcl9 hb9 Hv hW9 hcl
    replace Hv10 := Lib.hid Hv10
    replace hbw10 := Lib.hid hbw10
    go_wp2_with fail
    refine cb.out.mono ?_
    rintro e w11 ⟨rfl, hb11⟩
    have hbw11 := hbw10.out.trans (hb11.mono hbw10.out.size)
    have Hv11 := Hv10.out.only (Only.of_below hb11) (Nat.not_le.2 Hv10.out.lt)
    clear cb hb11 hbw10 Hv10
    obtain ⟨B1, hB1⟩ : ∃ B1, B1 = (w11.alloc (.cells #[.int .u8 (lo.ty : Int), .bool lo.nl, .int .i64 lo.n, .string lo.tx, .bool lo.b] 28)).alloc (.cells #[.int .u8 (hi.ty : Int), .bool hi.nl, .int .i64 hi.n, .string hi.tx, .bool hi.b] 28) := ⟨_, rfl⟩
    have hbB : Below w11.heap.size w11 B1 := by rw [hB1]; exact ((Below.refl _ _).alloc (Nat.le_refl _) _).alloc (by simp) _
    have Hlo : Has B1 w11.heap.size lo.cells 28 := by rw [hB1]; exact (Has.new w11 lo.cells _).alloc _
    have Hhi : Has B1 (w11.heap.size + 1) hi.cells 28 := by rw [hB1]; have h := Has.new (w11.alloc (.cells #[.int .u8 (lo.ty : Int), .bool lo.nl, .int .i64 lo.n, .string lo.tx, .bool lo.b] 28)) hi.cells 28; simp only [World.size_alloc] at h; exact h
    have Hv := Hv11.only (Only.of_below hbB) (Nat.not_le.2 Hv11.lt)
    have hbw := hbw11.trans (hbB.mono hbw11.size)
    have hBe := hB.out.trans (hbw.mono hB.out.size)
    have hEe := kE.out B1 (hb58.out.trans (hBe.mono hb58.out.size))
    clear Hv11 hbB hbw11 hbw
    replace hB1 := Lib.hid hB1.symm
    replace Hlo := Lib.hid Hlo
    replace Hhi := Lib.hid Hhi
    replace Hv := Lib.hid Hv
    replace hBe := Lib.hid hBe
    replace hEe := Lib.hid hEe
    go_upto_region 14 with fail
    rw [hB1.out]
    clear hB1
    have k_v := Lib.hid (fun wx (hb : Below B1.heap.size B1 wx) => Hv.out.only (Only.of_below hb) (Nat.not_le.2 Hv.out.lt))
    have k_lo := Lib.hid (fun wx (hb : Below B1.heap.size B1 wx) => Hlo.out.only (Only.of_below hb) (Nat.not_le.2 Hlo.out.lt))
    have k_hi := Lib.hid (fun wx (hb : Below B1.heap.size B1 wx) => Hhi.out.only (Only.of_below hb) (Nat.not_le.2 Hhi.out.lt))
    have wi : ∀ wx, Below B1.heap.size B1 wx → Calls Tryz.prog 21 #[.agg #[.int .u8 (v.ty : Int), .bool v.nl, .int .i64 v.n, .string v.tx, .bool v.b], .agg #[.int .u8 (lo.ty : Int), .bool lo.nl, .int .i64 lo.n, .string lo.tx, .bool lo.b], .agg #[.int .u8 (hi.ty : Int), .bool hi.nl, .int .i64 hi.n, .string hi.tx, .bool hi.b]] wx (RPost wx (.bool wv)) := fun wx hx => by rw [← hwv]; exact within_any v lo hi (Nat.le_trans g2.out (by decide)) bdp.out.1.2.1 bdp.out.2.2.1 wx (hEe.out.below hx)
    obtain ⟨BX, hBX⟩ : ∃ BX, BX = B1.alloc (.cells #[.int .u8 (lo.ty : Int), .bool lo.nl, .int .i64 lo.n, .string lo.tx, .bool lo.b, .int .u8 (hi.ty : Int), .bool hi.nl, .int .i64 hi.n, .string hi.tx, .bool hi.b] 28) := ⟨_, rfl⟩
    have HX : Has BX B1.heap.size (vCells [lo, hi]) 28 := by rw [hBX]; exact Has.new B1 (vCells [lo, hi]) _
    have hbX : Below B1.heap.size B1 BX := by rw [hBX]; exact (Below.refl _ _).alloc (Nat.le_refl _) _
    have us := lusable_any [lo, hi] (fun x hx => by
      simp only [List.mem_cons, List.not_mem_nil, or_false] at hx
      rcases hx with rfl | rfl
      · exact bdp.out.1.2.1
      · exact bdp.out.2.2.1) (by simp) (some ⟨B1.heap.size, 0, none⟩) 2 BX (hEe.out.below hbX) (Rd.of_has HX 2 2)
    obtain ⟨ok, hok⟩ : ∃ y, [lo, hi].all okB = y := ⟨_, rfl⟩
    rw [hok] at us
    have hokk : ok = true → okB lo = true ∧ okB hi = true := fun h => by
      rw [h] at hok
      simp only [List.all_cons, Bool.and_eq_true] at hok
      exact ⟨hok.1, hok.2.1⟩
    clear HX hok
    have hrl : ∀ wx, Below B1.heap.size B1 wx → Below w8.heap.size w8 wx := fun wx hx => hBe.out.trans (hx.mono hBe.out.size)
    obtain ⟨nlo, hnlo⟩ : ∃ y, lo.nl = y := ⟨_, rfl⟩
    obtain ⟨nhi, hnhi⟩ : ∃ y, hi.nl = y := ⟨_, rfl⟩
    have kl2 := k_lo.out
    have kh2 := k_hi.out
    replace hH := hH.out
    replace hI := hI.out
    unfold in4 at hI
    rw [hnlo, hnhi] at hH hI wi hBX
    obtain ⟨y1, hy1⟩ : ∃ y, decide (lo.n ≤ v.n) = y := ⟨_, rfl⟩
    obtain ⟨y2, hy2⟩ : ∃ y, decide (v.n ≤ hi.n) = y := ⟨_, rfl⟩
    rw [hy1, hy2] at hI
    have hlo1 : ∀ wx, Below B1.heap.size B1 wx → Has wx w11.heap.size [.int .u8 (lo.ty : Int), .bool nlo, .int .i64 lo.n, .string lo.tx, .bool lo.b] 28 := fun wx hx => by rw [← hnlo]; exact kl2 wx hx
    have hhi1 : ∀ wx, Below B1.heap.size B1 wx → Has wx (w11.heap.size + 1) [.int .u8 (hi.ty : Int), .bool nhi, .int .i64 hi.n, .string hi.tx, .bool hi.b] 28 := fun wx hx => by rw [← hnhi]; exact kh2 wx hx
    replace hBX := Lib.hid hBX.symm
    clear kl2 kh2 k_lo k_hi Hlo Hhi Hv
    replace wi := Lib.hid wi
    replace us := Lib.hid us
    replace hokk := Lib.hid hokk
    replace hrl := Lib.hid hrl
    replace hnlo := Lib.hid hnlo
    replace hnhi := Lib.hid hnhi
    replace hlo1 := Lib.hid hlo1
    replace hhi1 := Lib.hid hhi1
    replace hbX := Lib.hid hbX
    replace hwv := Lib.hid hwv
    replace hH := Lib.hid hH
    replace hI := Lib.hid hI
    cases nlo with
    | false =>
      cases nhi with
      | false =>
        by_cases h4 : k < 4
        · have k4 : decide ((k : Int) < 4) = true := decide_eq_true (by omega)
          have e4 : ((k : Int) == 4) = false := by simp; omega
          have ql := hlo1.out B1 (Below.refl _ _)
          have dl0 := ql.cell (o := 0) rfl
          have dl1 := ql.cell (o := 1) rfl
          have dl2 := ql.cell (o := 2) rfl
          have dl3 := ql.cell (o := 3) rfl
          have dl4 := ql.cell (o := 4) rfl
          replace ql := Lib.hid ql
          have qh := hhi1.out B1 (Below.refl _ _)
          have dh0 := qh.cell (o := 0) rfl
          have dh1 := qh.cell (o := 1) rfl
          have dh2 := qh.cell (o := 2) rfl
          have dh3 := qh.cell (o := 3) rfl
          have dh4 := qh.cell (o := 4) rfl
          replace qh := Lib.hid qh
          replace h4 := Lib.hid h4
          go_wp2_with fail
          rw [hBX.out]
          refine us.out.mono ?_
          rintro e w12 ⟨rfl, hb12⟩
          have hbe := Lib.hid (hbX.out.trans (hb12.mono hbX.out.size))
          clear hb12
          clear dl0 dl1 dl2 dl3 dl4 ql
          clear dh0 dh1 dh2 dh3 dh4 qh
          cases ok with
          | false =>
            go_wp2_with fail
            rw [kw.out]
            go_roundw
            case rel => exact ⟨k + 1, by omega, rfl, hrl.out _ hbe.out⟩
            case measure => simp [RowKit.intOf]; omega
          | true =>
            obtain ⟨u1, u2⟩ := hokk.out rfl
            have hZ0 := Lib.hid (hH.out h4.out (by simp) u1 u2)
            have wic := Lib.hid (wi.out w12 hbe.out)
            clear hokk us u1 u2
            have qv := k_v.out w12 hbe.out
            have dv0 := qv.cell (o := 0) rfl
            have dv1 := qv.cell (o := 1) rfl
            have dv2 := qv.cell (o := 2) rfl
            have dv3 := qv.cell (o := 3) rfl
            have dv4 := qv.cell (o := 4) rfl
            replace qv := Lib.hid qv
            have ql := hlo1.out w12 hbe.out
            have dl0 := ql.cell (o := 0) rfl
            have dl1 := ql.cell (o := 1) rfl
            have dl2 := ql.cell (o := 2) rfl
            have dl3 := ql.cell (o := 3) rfl
            have dl4 := ql.cell (o := 4) rfl
            replace ql := Lib.hid ql
            have qh := hhi1.out w12 hbe.out
            have dh0 := qh.cell (o := 0) rfl
            have dh1 := qh.cell (o := 1) rfl
            have dh2 := qh.cell (o := 2) rfl
            have dh3 := qh.cell (o := 3) rfl
            have dh4 := qh.cell (o := 4) rfl
            replace qh := Lib.hid qh
            go_wp2_with fail
            refine wic.out.mono ?_
            rintro e w13 ⟨rfl, hb13⟩
            have hb13e := Lib.hid (hbe.out.trans (hb13.mono hbe.out.size))
            clear hb13
            clear dv0 dv1 dv2 dv3 dv4 qv
            clear dl0 dl1 dl2 dl3 dl4 ql
            clear dh0 dh1 dh2 dh3 dh4 qh
            cases wv with
            | true =>
              have hZ : (z = true → true = true) ∧ (ex = true → true = true → z = true) := hZ0.out
              cases z with
              | true =>
                clear hZ
                cases ex <;> (go_wp2_with fail)
                all_goals
                  rw [kw.out]
                  go_roundw
                  case rel => exact ⟨k + 1, by omega, rfl, hrl.out _ hb13e.out⟩
                  case measure => simp [RowKit.intOf]; omega
              | false =>
                cases ex with
                | true =>
                  exact absurd (hZ.2 rfl rfl) (by simp)
                | false =>
                  clear hZ
                  go_wp2_with fail
                  rw [kw.out]
                  go_roundw
                  case rel => exact ⟨k + 1, by omega, rfl, hrl.out _ hb13e.out⟩
                  case measure => simp [RowKit.intOf]; omega
            | false =>
              have hZ : (z = true → false = true) ∧ (ex = true → false = true → z = true) := hZ0.out
              cases z with
              | true =>
                exact absurd (hZ.1 rfl) (by simp)
              | false =>
                cases ex with
                | true =>
                  clear hZ
                  go_wp2_with fail
                  rw [kw.out]
                  go_roundw
                  case rel => exact ⟨k + 1, by omega, rfl, hrl.out _ hb13e.out⟩
                  case measure => simp [RowKit.intOf]; omega
                | false =>
                  clear hZ
                  go_wp2_with fail
                  rw [kw.out]
                  go_roundw
                  case rel => exact ⟨k + 1, by omega, rfl, hrl.out _ hb13e.out⟩
                  case measure => simp [RowKit.intOf]; omega
        · have k4 : decide ((k : Int) < 4) = false := decide_eq_false (by omega)
          have e4 : ((k : Int) == 4) = true := by have := hn4.out; simp; omega
          have hk4 : k = 4 := by have := hn4.out; omega
          have hZ0 := Lib.hid (hI.out hk4 (by simp))
          replace hk4 := Lib.hid hk4
          have wic := Lib.hid (wi.out B1 (Below.refl _ _))
          replace h4 := Lib.hid h4
          have qv := k_v.out B1 (Below.refl _ _)
          have dv0 := qv.cell (o := 0) rfl
          have dv1 := qv.cell (o := 1) rfl
          have dv2 := qv.cell (o := 2) rfl
          have dv3 := qv.cell (o := 3) rfl
          have dv4 := qv.cell (o := 4) rfl
          replace qv := Lib.hid qv
          have ql := hlo1.out B1 (Below.refl _ _)
          have dl0 := ql.cell (o := 0) rfl
          have dl1 := ql.cell (o := 1) rfl
          have dl2 := ql.cell (o := 2) rfl
          have dl3 := ql.cell (o := 3) rfl
          have dl4 := ql.cell (o := 4) rfl
          replace ql := Lib.hid ql
          have qh := hhi1.out B1 (Below.refl _ _)
          have dh0 := qh.cell (o := 0) rfl
          have dh1 := qh.cell (o := 1) rfl
          have dh2 := qh.cell (o := 2) rfl
          have dh3 := qh.cell (o := 3) rfl
          have dh4 := qh.cell (o := 4) rfl
          replace qh := Lib.hid qh
          go_wp2_with fail
          refine wic.out.mono ?_
          rintro e w13 ⟨rfl, hb13⟩
          clear wic
          clear dv0 dv1 dv2 dv3 dv4 qv
          clear dl0 dl1 dl2 dl3 dl4 ql
          clear dh0 dh1 dh2 dh3 dh4 qh
          have qv := k_v.out w13 hb13
          have dv0 := qv.cell (o := 0) rfl
          have dv1 := qv.cell (o := 1) rfl
          have dv2 := qv.cell (o := 2) rfl
          have dv3 := qv.cell (o := 3) rfl
          have dv4 := qv.cell (o := 4) rfl
          replace qv := Lib.hid qv
          have ql := hlo1.out w13 hb13
          have dl0 := ql.cell (o := 0) rfl
          have dl1 := ql.cell (o := 1) rfl
          have dl2 := ql.cell (o := 2) rfl
          have dl3 := ql.cell (o := 3) rfl
          have dl4 := ql.cell (o := 4) rfl
          replace ql := Lib.hid ql
          have qh := hhi1.out w13 hb13
          have dh0 := qh.cell (o := 0) rfl
          have dh1 := qh.cell (o := 1) rfl
          have dh2 := qh.cell (o := 2) rfl
          have dh3 := qh.cell (o := 3) rfl
          have dh4 := qh.cell (o := 4) rfl
          replace qh := Lib.hid qh
          replace hb13 := Lib.hid hb13
          cases y1 with
          | false =>
            skip
            have hZ : (z = true → false = true) ∧ (ex = true → false = true → z = true) := hZ0.out
            cases z with
            | true =>
              exact absurd (hZ.1 rfl) (by simp)
            | false =>
              cases ex with
              | true =>
                clear hZ
                go_wp2_with fail
                rw [kw.out]
                go_roundw
                case rel => exact ⟨k + 1, by omega, rfl, hrl.out _ hb13.out⟩
                case measure => simp [RowKit.intOf]; omega
              | false =>
                clear hZ
                go_wp2_with fail
                rw [kw.out]
                go_roundw
                case rel => exact ⟨k + 1, by omega, rfl, hrl.out _ hb13.out⟩
                case measure => simp [RowKit.intOf]; omega
          | true =>
            cases y2 with
            | false =>
              have hZ : (z = true → false = true) ∧ (ex = true → false = true → z = true) := hZ0.out
              cases z with
              | true =>
                exact absurd (hZ.1 rfl) (by simp)
              | false =>
                cases ex with
                | true =>
                  clear hZ
                  go_wp2_with fail
                  rw [kw.out]
                  go_roundw
                  case rel => exact ⟨k + 1, by omega, rfl, hrl.out _ hb13.out⟩
                  case measure => simp [RowKit.intOf]; omega
                | false =>
                  clear hZ
                  go_wp2_with fail
                  rw [kw.out]
                  go_roundw
                  case rel => exact ⟨k + 1, by omega, rfl, hrl.out _ hb13.out⟩
                  case measure => simp [RowKit.intOf]; omega
            | true =>
              have hZ : (z = true → true = true) ∧ (ex = true → true = true → z = true) := hZ0.out
              cases z with
              | true =>
                clear hZ
                cases ex <;> (go_wp2_with fail)
                all_goals
                  rw [kw.out]
                  go_roundw
                  case rel => exact ⟨k + 1, by omega, rfl, hrl.out _ hb13.out⟩
                  case measure => simp [RowKit.intOf]; omega
              | false =>
                cases ex with
                | true =>
                  exact absurd (hZ.2 rfl rfl) (by simp)
                | false =>
                  clear hZ
                  go_wp2_with fail
                  rw [kw.out]
                  go_roundw
                  case rel => exact ⟨k + 1, by omega, rfl, hrl.out _ hb13.out⟩
                  case measure => simp [RowKit.intOf]; omega
      | true =>
        by_cases h4 : k < 4
        · have k4 : decide ((k : Int) < 4) = true := decide_eq_true (by omega)
          have e4 : ((k : Int) == 4) = false := by simp; omega
          have ql := hlo1.out B1 (Below.refl _ _)
          have dl0 := ql.cell (o := 0) rfl
          have dl1 := ql.cell (o := 1) rfl
          have dl2 := ql.cell (o := 2) rfl
          have dl3 := ql.cell (o := 3) rfl
          have dl4 := ql.cell (o := 4) rfl
          replace ql := Lib.hid ql
          have qh := hhi1.out B1 (Below.refl _ _)
          have dh0 := qh.cell (o := 0) rfl
          have dh1 := qh.cell (o := 1) rfl
          have dh2 := qh.cell (o := 2) rfl
          have dh3 := qh.cell (o := 3) rfl
          have dh4 := qh.cell (o := 4) rfl
          replace qh := Lib.hid qh
          replace h4 := Lib.hid h4
          go_wp2_with fail
          rw [hBX.out]
          refine us.out.mono ?_
          rintro e w12 ⟨rfl, hb12⟩
          have hbe := Lib.hid (hbX.out.trans (hb12.mono hbX.out.size))
          clear hb12
          clear dl0 dl1 dl2 dl3 dl4 ql
          clear dh0 dh1 dh2 dh3 dh4 qh
          cases ok with
          | false =>
            go_wp2_with fail
            rw [kw.out]
            go_roundw
            case rel => exact ⟨k + 1, by omega, rfl, hrl.out _ hbe.out⟩
            case measure => simp [RowKit.intOf]; omega
          | true =>
            obtain ⟨u1, u2⟩ := hokk.out rfl
            have hZ0 := Lib.hid (hH.out h4.out (by simp) u1 u2)
            have wic := Lib.hid (wi.out w12 hbe.out)
            clear hokk us u1 u2
            have qv := k_v.out w12 hbe.out
            have dv0 := qv.cell (o := 0) rfl
            have dv1 := qv.cell (o := 1) rfl
            have dv2 := qv.cell (o := 2) rfl
            have dv3 := qv.cell (o := 3) rfl
            have dv4 := qv.cell (o := 4) rfl
            replace qv := Lib.hid qv
            have ql := hlo1.out w12 hbe.out
            have dl0 := ql.cell (o := 0) rfl
            have dl1 := ql.cell (o := 1) rfl
            have dl2 := ql.cell (o := 2) rfl
            have dl3 := ql.cell (o := 3) rfl
            have dl4 := ql.cell (o := 4) rfl
            replace ql := Lib.hid ql
            have qh := hhi1.out w12 hbe.out
            have dh0 := qh.cell (o := 0) rfl
            have dh1 := qh.cell (o := 1) rfl
            have dh2 := qh.cell (o := 2) rfl
            have dh3 := qh.cell (o := 3) rfl
            have dh4 := qh.cell (o := 4) rfl
            replace qh := Lib.hid qh
            go_wp2_with fail
            refine wic.out.mono ?_
            rintro e w13 ⟨rfl, hb13⟩
            have hb13e := Lib.hid (hbe.out.trans (hb13.mono hbe.out.size))
            clear hb13
            clear dv0 dv1 dv2 dv3 dv4 qv
            clear dl0 dl1 dl2 dl3 dl4 ql
            clear dh0 dh1 dh2 dh3 dh4 qh
            cases wv with
            | true =>
              have hZ : (z = true → true = true) ∧ (ex = true → true = true → z = true) := hZ0.out
              cases z with
              | true =>
                clear hZ
                cases ex <;> (go_wp2_with fail)
                all_goals
                  rw [kw.out]
                  go_roundw
                  case rel => exact ⟨k + 1, by omega, rfl, hrl.out _ hb13e.out⟩
                  case measure => simp [RowKit.intOf]; omega
              | false =>
                cases ex with
                | true =>
                  exact absurd (hZ.2 rfl rfl) (by simp)
                | false =>
                  clear hZ
                  go_wp2_with fail
                  rw [kw.out]
                  go_roundw
                  case rel => exact ⟨k + 1, by omega, rfl, hrl.out _ hb13e.out⟩
                  case measure => simp [RowKit.intOf]; omega
            | false =>
              have hZ : (z = true → false = true) ∧ (ex = true → false = true → z = true) := hZ0.out
              cases z with
              | true =>
                exact absurd (hZ.1 rfl) (by simp)
              | false =>
                cases ex with
                | true =>
                  clear hZ
                  go_wp2_with fail
                  rw [kw.out]
                  go_roundw
                  case rel => exact ⟨k + 1, by omega, rfl, hrl.out _ hb13e.out⟩
                  case measure => simp [RowKit.intOf]; omega
                | false =>
                  clear hZ
                  go_wp2_with fail
                  rw [kw.out]
                  go_roundw
                  case rel => exact ⟨k + 1, by omega, rfl, hrl.out _ hb13e.out⟩
                  case measure => simp [RowKit.intOf]; omega
        · have k4 : decide ((k : Int) < 4) = false := decide_eq_false (by omega)
          have e4 : ((k : Int) == 4) = true := by have := hn4.out; simp; omega
          have hk4 : k = 4 := by have := hn4.out; omega
          have hZ0 := Lib.hid (hI.out hk4 (by simp))
          replace hk4 := Lib.hid hk4
          have wic := Lib.hid (wi.out B1 (Below.refl _ _))
          replace h4 := Lib.hid h4
          have qv := k_v.out B1 (Below.refl _ _)
          have dv0 := qv.cell (o := 0) rfl
          have dv1 := qv.cell (o := 1) rfl
          have dv2 := qv.cell (o := 2) rfl
          have dv3 := qv.cell (o := 3) rfl
          have dv4 := qv.cell (o := 4) rfl
          replace qv := Lib.hid qv
          have ql := hlo1.out B1 (Below.refl _ _)
          have dl0 := ql.cell (o := 0) rfl
          have dl1 := ql.cell (o := 1) rfl
          have dl2 := ql.cell (o := 2) rfl
          have dl3 := ql.cell (o := 3) rfl
          have dl4 := ql.cell (o := 4) rfl
          replace ql := Lib.hid ql
          have qh := hhi1.out B1 (Below.refl _ _)
          have dh0 := qh.cell (o := 0) rfl
          have dh1 := qh.cell (o := 1) rfl
          have dh2 := qh.cell (o := 2) rfl
          have dh3 := qh.cell (o := 3) rfl
          have dh4 := qh.cell (o := 4) rfl
          replace qh := Lib.hid qh
          go_wp2_with fail
          refine wic.out.mono ?_
          rintro e w13 ⟨rfl, hb13⟩
          clear wic
          clear dv0 dv1 dv2 dv3 dv4 qv
          clear dl0 dl1 dl2 dl3 dl4 ql
          clear dh0 dh1 dh2 dh3 dh4 qh
          have qv := k_v.out w13 hb13
          have dv0 := qv.cell (o := 0) rfl
          have dv1 := qv.cell (o := 1) rfl
          have dv2 := qv.cell (o := 2) rfl
          have dv3 := qv.cell (o := 3) rfl
          have dv4 := qv.cell (o := 4) rfl
          replace qv := Lib.hid qv
          have ql := hlo1.out w13 hb13
          have dl0 := ql.cell (o := 0) rfl
          have dl1 := ql.cell (o := 1) rfl
          have dl2 := ql.cell (o := 2) rfl
          have dl3 := ql.cell (o := 3) rfl
          have dl4 := ql.cell (o := 4) rfl
          replace ql := Lib.hid ql
          have qh := hhi1.out w13 hb13
          have dh0 := qh.cell (o := 0) rfl
          have dh1 := qh.cell (o := 1) rfl
          have dh2 := qh.cell (o := 2) rfl
          have dh3 := qh.cell (o := 3) rfl
          have dh4 := qh.cell (o := 4) rfl
          replace qh := Lib.hid qh
          replace hb13 := Lib.hid hb13
          cases y1 with
          | false =>
            skip
            have hZ : (z = true → false = true) ∧ (ex = true → false = true → z = true) := hZ0.out
            cases z with
            | true =>
              exact absurd (hZ.1 rfl) (by simp)
            | false =>
              cases ex with
              | true =>
                clear hZ
                go_wp2_with fail
                rw [kw.out]
                go_roundw
                case rel => exact ⟨k + 1, by omega, rfl, hrl.out _ hb13.out⟩
                case measure => simp [RowKit.intOf]; omega
              | false =>
                clear hZ
                go_wp2_with fail
                rw [kw.out]
                go_roundw
                case rel => exact ⟨k + 1, by omega, rfl, hrl.out _ hb13.out⟩
                case measure => simp [RowKit.intOf]; omega
          | true =>
            have hZ : (z = true → true = true) ∧ (ex = true → true = true → z = true) := hZ0.out
            cases z with
            | true =>
              clear hZ
              cases ex <;> (go_wp2_with fail)
              all_goals
                rw [kw.out]
                go_roundw
                case rel => exact ⟨k + 1, by omega, rfl, hrl.out _ hb13.out⟩
                case measure => simp [RowKit.intOf]; omega
            | false =>
              cases ex with
              | true =>
                exact absurd (hZ.2 rfl rfl) (by simp)
              | false =>
                clear hZ
                go_wp2_with fail
                rw [kw.out]
                go_roundw
                case rel => exact ⟨k + 1, by omega, rfl, hrl.out _ hb13.out⟩
                case measure => simp [RowKit.intOf]; omega
    | true =>
      cases nhi with
      | false =>
        by_cases h4 : k < 4
        · have k4 : decide ((k : Int) < 4) = true := decide_eq_true (by omega)
          have e4 : ((k : Int) == 4) = false := by simp; omega
          have ql := hlo1.out B1 (Below.refl _ _)
          have dl0 := ql.cell (o := 0) rfl
          have dl1 := ql.cell (o := 1) rfl
          have dl2 := ql.cell (o := 2) rfl
          have dl3 := ql.cell (o := 3) rfl
          have dl4 := ql.cell (o := 4) rfl
          replace ql := Lib.hid ql
          have qh := hhi1.out B1 (Below.refl _ _)
          have dh0 := qh.cell (o := 0) rfl
          have dh1 := qh.cell (o := 1) rfl
          have dh2 := qh.cell (o := 2) rfl
          have dh3 := qh.cell (o := 3) rfl
          have dh4 := qh.cell (o := 4) rfl
          replace qh := Lib.hid qh
          replace h4 := Lib.hid h4
          go_wp2_with fail
          rw [hBX.out]
          refine us.out.mono ?_
          rintro e w12 ⟨rfl, hb12⟩
          have hbe := Lib.hid (hbX.out.trans (hb12.mono hbX.out.size))
          clear hb12
          clear dl0 dl1 dl2 dl3 dl4 ql
          clear dh0 dh1 dh2 dh3 dh4 qh
          cases ok with
          | false =>
            go_wp2_with fail
            rw [kw.out]
            go_roundw
            case rel => exact ⟨k + 1, by omega, rfl, hrl.out _ hbe.out⟩
            case measure => simp [RowKit.intOf]; omega
          | true =>
            obtain ⟨u1, u2⟩ := hokk.out rfl
            have hZ0 := Lib.hid (hH.out h4.out (by simp) u1 u2)
            have wic := Lib.hid (wi.out w12 hbe.out)
            clear hokk us u1 u2
            have qv := k_v.out w12 hbe.out
            have dv0 := qv.cell (o := 0) rfl
            have dv1 := qv.cell (o := 1) rfl
            have dv2 := qv.cell (o := 2) rfl
            have dv3 := qv.cell (o := 3) rfl
            have dv4 := qv.cell (o := 4) rfl
            replace qv := Lib.hid qv
            have ql := hlo1.out w12 hbe.out
            have dl0 := ql.cell (o := 0) rfl
            have dl1 := ql.cell (o := 1) rfl
            have dl2 := ql.cell (o := 2) rfl
            have dl3 := ql.cell (o := 3) rfl
            have dl4 := ql.cell (o := 4) rfl
            replace ql := Lib.hid ql
            have qh := hhi1.out w12 hbe.out
            have dh0 := qh.cell (o := 0) rfl
            have dh1 := qh.cell (o := 1) rfl
            have dh2 := qh.cell (o := 2) rfl
            have dh3 := qh.cell (o := 3) rfl
            have dh4 := qh.cell (o := 4) rfl
            replace qh := Lib.hid qh
            go_wp2_with fail
            refine wic.out.mono ?_
            rintro e w13 ⟨rfl, hb13⟩
            have hb13e := Lib.hid (hbe.out.trans (hb13.mono hbe.out.size))
            clear hb13
            clear dv0 dv1 dv2 dv3 dv4 qv
            clear dl0 dl1 dl2 dl3 dl4 ql
            clear dh0 dh1 dh2 dh3 dh4 qh
            cases wv with
            | true =>
              have hZ : (z = true → true = true) ∧ (ex = true → true = true → z = true) := hZ0.out
              cases z with
              | true =>
                clear hZ
                cases ex <;> (go_wp2_with fail)
                all_goals
                  rw [kw.out]
                  go_roundw
                  case rel => exact ⟨k + 1, by omega, rfl, hrl.out _ hb13e.out⟩
                  case measure => simp [RowKit.intOf]; omega
              | false =>
                cases ex with
                | true =>
                  exact absurd (hZ.2 rfl rfl) (by simp)
                | false =>
                  clear hZ
                  go_wp2_with fail
                  rw [kw.out]
                  go_roundw
                  case rel => exact ⟨k + 1, by omega, rfl, hrl.out _ hb13e.out⟩
                  case measure => simp [RowKit.intOf]; omega
            | false =>
              have hZ : (z = true → false = true) ∧ (ex = true → false = true → z = true) := hZ0.out
              cases z with
              | true =>
                exact absurd (hZ.1 rfl) (by simp)
              | false =>
                cases ex with
                | true =>
                  clear hZ
                  go_wp2_with fail
                  rw [kw.out]
                  go_roundw
                  case rel => exact ⟨k + 1, by omega, rfl, hrl.out _ hb13e.out⟩
                  case measure => simp [RowKit.intOf]; omega
                | false =>
                  clear hZ
                  go_wp2_with fail
                  rw [kw.out]
                  go_roundw
                  case rel => exact ⟨k + 1, by omega, rfl, hrl.out _ hb13e.out⟩
                  case measure => simp [RowKit.intOf]; omega
        · have k4 : decide ((k : Int) < 4) = false := decide_eq_false (by omega)
          have e4 : ((k : Int) == 4) = true := by have := hn4.out; simp; omega
          have hk4 : k = 4 := by have := hn4.out; omega
          have hZ0 := Lib.hid (hI.out hk4 (by simp))
          replace hk4 := Lib.hid hk4
          have wic := Lib.hid (wi.out B1 (Below.refl _ _))
          replace h4 := Lib.hid h4
          have qv := k_v.out B1 (Below.refl _ _)
          have dv0 := qv.cell (o := 0) rfl
          have dv1 := qv.cell (o := 1) rfl
          have dv2 := qv.cell (o := 2) rfl
          have dv3 := qv.cell (o := 3) rfl
          have dv4 := qv.cell (o := 4) rfl
          replace qv := Lib.hid qv
          have ql := hlo1.out B1 (Below.refl _ _)
          have dl0 := ql.cell (o := 0) rfl
          have dl1 := ql.cell (o := 1) rfl
          have dl2 := ql.cell (o := 2) rfl
          have dl3 := ql.cell (o := 3) rfl
          have dl4 := ql.cell (o := 4) rfl
          replace ql := Lib.hid ql
          have qh := hhi1.out B1 (Below.refl _ _)
          have dh0 := qh.cell (o := 0) rfl
          have dh1 := qh.cell (o := 1) rfl
          have dh2 := qh.cell (o := 2) rfl
          have dh3 := qh.cell (o := 3) rfl
          have dh4 := qh.cell (o := 4) rfl
          replace qh := Lib.hid qh
          go_wp2_with fail
          refine wic.out.mono ?_
          rintro e w13 ⟨rfl, hb13⟩
          clear wic
          clear dv0 dv1 dv2 dv3 dv4 qv
          clear dl0 dl1 dl2 dl3 dl4 ql
          clear dh0 dh1 dh2 dh3 dh4 qh
          have qv := k_v.out w13 hb13
          have dv0 := qv.cell (o := 0) rfl
          have dv1 := qv.cell (o := 1) rfl
          have dv2 := qv.cell (o := 2) rfl
          have dv3 := qv.cell (o := 3) rfl
          have dv4 := qv.cell (o := 4) rfl
          replace qv := Lib.hid qv
          have ql := hlo1.out w13 hb13
          have dl0 := ql.cell (o := 0) rfl
          have dl1 := ql.cell (o := 1) rfl
          have dl2 := ql.cell (o := 2) rfl
          have dl3 := ql.cell (o := 3) rfl
          have dl4 := ql.cell (o := 4) rfl
          replace ql := Lib.hid ql
          have qh := hhi1.out w13 hb13
          have dh0 := qh.cell (o := 0) rfl
          have dh1 := qh.cell (o := 1) rfl
          have dh2 := qh.cell (o := 2) rfl
          have dh3 := qh.cell (o := 3) rfl
          have dh4 := qh.cell (o := 4) rfl
          replace qh := Lib.hid qh
          replace hb13 := Lib.hid hb13
          cases y2 with
          | false =>
            have hZ : (z = true → false = true) ∧ (ex = true → false = true → z = true) := hZ0.out
            cases z with
            | true =>
              exact absurd (hZ.1 rfl) (by simp)
            | false =>
              cases ex with
              | true =>
                clear hZ
                go_wp2_with fail
                rw [kw.out]
                go_roundw
                case rel => exact ⟨k + 1, by omega, rfl, hrl.out _ hb13.out⟩
                case measure => simp [RowKit.intOf]; omega
              | false =>
                clear hZ
                go_wp2_with fail
                rw [kw.out]
                go_roundw
                case rel => exact ⟨k + 1, by omega, rfl, hrl.out _ hb13.out⟩
                case measure => simp [RowKit.intOf]; omega
          | true =>
            have hZ : (z = true → true = true) ∧ (ex = true → true = true → z = true) := hZ0.out
            cases z with
            | true =>
              clear hZ
              cases ex <;> (go_wp2_with fail)
              all_goals
                rw [kw.out]
                go_roundw
                case rel => exact ⟨k + 1, by omega, rfl, hrl.out _ hb13.out⟩
                case measure => simp [RowKit.intOf]; omega
            | false =>
              cases ex with
              | true =>
                exact absurd (hZ.2 rfl rfl) (by simp)
              | false =>
                clear hZ
                go_wp2_with fail
                rw [kw.out]
                go_roundw
                case rel => exact ⟨k + 1, by omega, rfl, hrl.out _ hb13.out⟩
                case measure => simp [RowKit.intOf]; omega
      | true =>
        have ql := hlo1.out B1 (Below.refl _ _)
        have dl0 := ql.cell (o := 0) rfl
        have dl1 := ql.cell (o := 1) rfl
        have dl2 := ql.cell (o := 2) rfl
        have dl3 := ql.cell (o := 3) rfl
        have dl4 := ql.cell (o := 4) rfl
        replace ql := Lib.hid ql
        have qh := hhi1.out B1 (Below.refl _ _)
        have dh0 := qh.cell (o := 0) rfl
        have dh1 := qh.cell (o := 1) rfl
        have dh2 := qh.cell (o := 2) rfl
        have dh3 := qh.cell (o := 3) rfl
        have dh4 := qh.cell (o := 4) rfl
        replace qh := Lib.hid qh
        go_wp2_with fail
        rw [kw.out]
        go_roundw
        case rel => exact ⟨k + 1, by omega, rfl, hrl.out _ (Below.refl _ _)⟩
        case measure => simp [RowKit.intOf]; omega
end Go.Proofs.YtgnoikfmhncbmaaGreatDoor
