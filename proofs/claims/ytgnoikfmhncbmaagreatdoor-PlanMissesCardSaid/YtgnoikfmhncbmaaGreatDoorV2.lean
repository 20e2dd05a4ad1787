/- Walks: truthOf, test. -/
import Derived.Test.YtgnoikfmhncbmaaGreatDoorE1
import Derived.Test.YtgnoikfmhncbmaaGreatDoorR19
import Derived.Deep.DeepCutAuto
import Derived.Deep.CutBlock
set_option linter.unusedVariables false
set_option linter.unusedSimpArgs false
namespace Go.Proofs.YtgnoikfmhncbmaaGreatDoor
open Go.RowKit Go.Lib Go.BigFrame
set_option maxHeartbeats 4000000 in
set_option maxRecDepth 100000 in
theorem truth_any (b : Bool) (w : World) : Calls Tryz.prog 72 #[.bool b] w (fun e w' => e = .returned (.int .i64 (trI b)) ∧ w' = w) := by
  cases b <;> (go_enter Tryz.func72, Tryz.ntmps72; go_wp2_with fail; go_ret; exact ⟨rfl, rfl⟩)
set_option maxHeartbeats 8000000 in
set_option maxRecDepth 100000 in
theorem test_any (b op : Nat) (pl pr : Value) (cc : ByteArray) (x v : RV) (hs : x.tx.size ≤ 140737488351232) (hv : v.tx.size ≤ 140737488351232) (w : World) (hh : Has w b (exCells op pl pr cc x) 46) :
    Calls Tryz.prog 44 #[.pointer (some ⟨b, 0, none⟩), .agg #[.int .u8 (v.ty : Int), .bool v.nl, .int .i64 v.n, .string v.tx, .bool v.b]] w (RPost w (.int .i64 (testP op x v))) := by
  generalize hpost : RPost w (.int .i64 (testP op x v)) = post
  have hf : ∀ r w', testP op x v = r → Below w.heap.size w w' → post (.returned (.int .i64 r)) w' := fun r w' h1 h2 => by rw [← hpost, h1]; exact ⟨rfl, h2⟩
  clear hpost
  obtain ⟨W1, hW1⟩ : ∃ W1, W1 = w.alloc (.cells #[.int .u8 (v.ty : Int), .bool v.nl, .int .i64 v.n, .string v.tx, .bool v.b] 28) := ⟨_, rfl⟩
  have hb1 : Below w.heap.size w W1 := by rw [hW1]; exact (Below.refl _ _).alloc (Nat.le_refl _) _
  have HV : Has W1 w.heap.size v.cells 28 := by rw [hW1]; exact Has.new w v.cells _
  have HX : Has W1 b (exCells op pl pr cc x) 46 := by rw [hW1]; exact hh.alloc _
  replace hW1 := Lib.hid hW1.symm
  have a0 := HX.cell (o := 0) rfl
  have v1 := HV.cell (o := 1) rfl
  replace hf := Lib.hid hf
  replace HV := Lib.hid HV
  replace HX := Lib.hid HX
  replace hb1 := Lib.hid hb1
  replace hs := Lib.hid hs
  replace hv := Lib.hid hv
  clear hh
  go_enter Tryz.func44, Tryz.ntmps44
  go_upto_region 1 with fail
  rw [hW1.out]
  by_cases h10 : op = 10
  · subst h10
    have hfin := Lib.hid (hf.out (trI v.nl) W1 (by unfold testP; rw [if_pos rfl]) hb1.out)
    have ht := Lib.hid (truth_any v.nl W1)
    go_wp2_with fail
    refine ht.out.mono ?_
    rintro e w2 ⟨rfl, rfl⟩
    go_wp2_with fail
    exact hfin.out
  · have e10 : ((op : Int) == 10) = false := by simp; omega
    obtain ⟨vn, hvn⟩ : ∃ z, v.nl = z := ⟨_, rfl⟩
    rw [hvn] at v1
    cases vn with
    | true =>
      have hfin := Lib.hid (hf.out 1 W1 (by unfold testP; rw [if_neg h10, hvn]; rfl) hb1.out)
      replace hvn := Lib.hid hvn
      replace h10 := Lib.hid h10
      go_wp2_with fail
      exact hfin.out
    | false =>
      have hT : testP op x v = if 1 ≤ v.ty ∧ v.ty ≤ 3 then trI (opT op (cmpT v x)) else 1 := by unfold testP; rw [if_neg h10, hvn]; rfl
      replace hf := hf.out
      rw [hT] at hf
      clear hT
      have v0 := HV.out.cell (o := 0) rfl
      replace hvn := Lib.hid hvn
      replace h10 := Lib.hid h10
      replace hf := Lib.hid hf
      have kV := Lib.hid (fun wx (hb : Below W1.heap.size W1 wx) => HV.out.only (Only.of_below hb) (Nat.not_le.2 HV.out.lt))
      have kX := Lib.hid (fun wx (hb : Below W1.heap.size W1 wx) => HX.out.only (Only.of_below hb) (Nat.not_le.2 HX.out.lt))
      obtain ⟨cm, hcm⟩ : ∃ z, cmpT v x = z := ⟨_, rfl⟩
      replace hf := hf.out
      rw [hcm] at hf
      replace hf := Lib.hid hf
      replace hcm := Lib.hid hcm
      go_upto_block 0 with fail
      go_cut [5] (fun q wx => (1 ≤ v.ty ∧ v.ty ≤ 3) ∧ q = .int .i64 cm ∧ Below w.heap.size w wx ∧ Has wx b (exCells op pl pr cc x) 46)
      case first =>
        have ty1 : v.ty = 1 → cm = compareInt v.n x.n := fun h => by rw [← hcm.out]; unfold cmpT; rw [if_pos h]
        have ty2 : v.ty = 2 → cm = compareBytes v.tx.data.toList x.tx.data.toList := fun h => by rw [← hcm.out]; unfold cmpT; rw [if_neg (by omega), if_pos h]
        have ty3 : v.ty = 3 → cm = if v.b = x.b then 0 else if v.b then 1 else -1 := fun h => by
          rw [← hcm.out]; unfold cmpT; rw [if_neg (by omega), if_neg (by omega)]
        by_cases t1 : v.ty = 1
        · have e1 : ((v.ty : Int) == 1) = true := by simp; omega
          have hcc := Lib.hid (ty1 t1).symm
          have hrng := Lib.hid (show 1 ≤ v.ty ∧ v.ty ≤ 3 by omega)
          clear ty1 ty2 ty3
          replace t1 := Lib.hid t1
          go_upto_region 9 with fail
          refine wp_region_quietC (C := fun wx => Below W1.heap.size W1 wx) (by kernel_rfl) (by kernel_rfl) (below_drew (Below.refl _ _)) ?_
          go_big_quiet_want; go_big_quiet_op; first | go_big_quiet_on | (refine ⟨_, fun _ _ => rfl, ?_⟩; go_big_quiet_on)
          go_big_quiet_want; go_big_quiet_op
          refine ⟨.int .i64 v.n, fun wx hx => by simp [go_sem, (kV.out wx hx).cell (o := 2) rfl], ?_⟩
          go_big_quiet_on
          go_big_quiet_want; go_big_quiet_op; first | go_big_quiet_on | (refine ⟨_, fun _ _ => rfl, ?_⟩; go_big_quiet_on)
          go_big_quiet_want; go_big_quiet_op; first | go_big_quiet_on | (refine ⟨_, fun _ _ => rfl, ?_⟩; go_big_quiet_on)
          go_big_quiet_want; go_big_quiet_op; first | go_big_quiet_on | (refine ⟨_, fun _ _ => rfl, ?_⟩; go_big_quiet_on)
          go_big_quiet_want; go_big_quiet_op; first | go_big_quiet_on | (refine ⟨_, fun _ _ => rfl, ?_⟩; go_big_quiet_on)
          go_big_quiet_want; go_big_quiet_op
          refine ⟨.int .i64 x.n, fun wx hx => by simp [go_sem, (kX.out wx hx).cell (o := 6) rfl], ?_⟩
          go_big_quiet_on
          go_big_quiet_want; go_big_quiet_op
          refine ⟨.int .i64 cm, fun wx hx => (cmpi64_any v.n x.n wx).mono fun e w2 ⟨he, hw⟩ => ⟨by rw [he, hcc.out], hw ▸ hx⟩, ?_⟩
          go_big_quiet_on
          go_big_quiet_want; go_big_quiet_op; first | go_big_quiet_on | (refine ⟨_, fun _ _ => rfl, ?_⟩; go_big_quiet_on)
          refine wpQuiet_nil ?_
          intro w2 hw2
          have hX2 := Lib.hid (kX.out w2 hw2)
          have hB2 := Lib.hid (hb1.out.trans (hw2.mono hb1.out.size))
          go_wp2_with fail
          go_meet
          exact ⟨hrng.out, rfl, hB2.out, hX2.out⟩
        have e1 : ((v.ty : Int) == 1) = false := by simp; omega
        by_cases t2 : v.ty = 2
        · have e2 : ((v.ty : Int) == 2) = true := by simp; omega
          have hcc := Lib.hid (ty2 t2).symm
          have hrng := Lib.hid (show 1 ≤ v.ty ∧ v.ty ≤ 3 by omega)
          clear ty1 ty2 ty3
          replace t1 := Lib.hid t1
          replace t2 := Lib.hid t2
          go_upto_region 11 with fail
          refine wp_region_quietC (C := fun wx => Below W1.heap.size W1 wx) (by kernel_rfl) (by kernel_rfl) (below_drew (Below.refl _ _)) ?_
          go_big_quiet_want; go_big_quiet_op; first | go_big_quiet_on | (refine ⟨_, fun _ _ => rfl, ?_⟩; go_big_quiet_on)
          go_big_quiet_want; go_big_quiet_op
          refine ⟨.string v.tx, fun wx hx => by simp [go_sem, (kV.out wx hx).cell (o := 3) rfl], ?_⟩
          go_big_quiet_on
          go_big_quiet_want; go_big_quiet_op; first | go_big_quiet_on | (refine ⟨_, fun _ _ => rfl, ?_⟩; go_big_quiet_on)
          go_big_quiet_want; go_big_quiet_op; first | go_big_quiet_on | (refine ⟨_, fun _ _ => rfl, ?_⟩; go_big_quiet_on)
          go_big_quiet_want; go_big_quiet_op; first | go_big_quiet_on | (refine ⟨_, fun _ _ => rfl, ?_⟩; go_big_quiet_on)
          go_big_quiet_want; go_big_quiet_op; first | go_big_quiet_on | (refine ⟨_, fun _ _ => rfl, ?_⟩; go_big_quiet_on)
          go_big_quiet_want; go_big_quiet_op
          refine ⟨.string x.tx, fun wx hx => by simp [go_sem, (kX.out wx hx).cell (o := 7) rfl], ?_⟩
          go_big_quiet_on
          go_big_quiet_want; go_big_quiet_op
          refine ⟨.int .i64 cm, fun wx hx => (strcmp_any v.tx x.tx wx).mono fun e w2 ⟨he, hw⟩ => ⟨by rw [he, hcc.out], hw ▸ hx⟩, ?_⟩
          go_big_quiet_on
          go_big_quiet_want; go_big_quiet_op; first | go_big_quiet_on | (refine ⟨_, fun _ _ => rfl, ?_⟩; go_big_quiet_on)
          refine wpQuiet_nil ?_
          intro w2 hw2
          have hX2 := Lib.hid (kX.out w2 hw2)
          have hB2 := Lib.hid (hb1.out.trans (hw2.mono hb1.out.size))
          go_wp2_with fail
          go_meet
          exact ⟨hrng.out, rfl, hB2.out, hX2.out⟩
        have e2 : ((v.ty : Int) == 2) = false := by simp; omega
        by_cases t3 : v.ty = 3
        · have e3 : ((v.ty : Int) == 3) = true := by simp; omega
          have hcc := Lib.hid (ty3 t3)
          have hrng := Lib.hid (show 1 ≤ v.ty ∧ v.ty ≤ 3 by omega)
          clear ty1 ty2 ty3
          replace t1 := Lib.hid t1
          replace t2 := Lib.hid t2
          replace t3 := Lib.hid t3
          obtain ⟨z, hz⟩ : ∃ z, (v.b != x.b) = z := ⟨_, rfl⟩
          replace hz := Lib.hid hz
          go_upto_region 13 with fail
          refine wp_region_quietC (C := fun wx => Below W1.heap.size W1 wx) (by kernel_rfl) (by kernel_rfl) (below_drew (Below.refl _ _)) ?_
          go_big_quiet_want; go_big_quiet_op; first | go_big_quiet_on | (refine ⟨_, fun _ _ => rfl, ?_⟩; go_big_quiet_on)
          go_big_quiet_want; go_big_quiet_op
          refine ⟨.bool v.b, fun wx hx => by simp [go_sem, (kV.out wx hx).cell (o := 4) rfl], ?_⟩
          go_big_quiet_on
          go_big_quiet_want; go_big_quiet_op; first | go_big_quiet_on | (refine ⟨_, fun _ _ => rfl, ?_⟩; go_big_quiet_on)
          go_big_quiet_want; go_big_quiet_op; first | go_big_quiet_on | (refine ⟨_, fun _ _ => rfl, ?_⟩; go_big_quiet_on)
          go_big_quiet_want; go_big_quiet_op; first | go_big_quiet_on | (refine ⟨_, fun _ _ => rfl, ?_⟩; go_big_quiet_on)
          go_big_quiet_want; go_big_quiet_op; first | go_big_quiet_on | (refine ⟨_, fun _ _ => rfl, ?_⟩; go_big_quiet_on)
          go_big_quiet_want; go_big_quiet_op
          refine ⟨.bool x.b, fun wx hx => by simp [go_sem, (kX.out wx hx).cell (o := 8) rfl], ?_⟩
          go_big_quiet_on
          go_big_quiet_want; go_big_quiet_op
          refine ⟨.bool z, fun wx hx => by rw [← hz.out]; cases v.b <;> cases x.b <;> rfl, ?_⟩
          go_big_quiet_on
          refine wpQuiet_nil ?_
          intro w2 hw2
          have hX2 := Lib.hid (kX.out w2 hw2)
          have hB2 := Lib.hid (hb1.out.trans (hw2.mono hb1.out.size))
          have v4 := (kV.out w2 hw2).cell (o := 4) rfl
          replace hcc := hcc.out
          obtain ⟨vb, hvb⟩ : ∃ z, v.b = z := ⟨_, rfl⟩
          obtain ⟨xb, hxb⟩ : ∃ z, x.b = z := ⟨_, rfl⟩
          have hz2 : (vb != xb) = z := by rw [← hvb, ← hxb]; exact hz.out
          rw [hvb] at v4 hcc
          rw [hxb] at hcc
          replace hvb := Lib.hid hvb
          replace hxb := Lib.hid hxb
          cases vb <;> cases xb
          all_goals
            simp only [if_true, if_false, Bool.false_eq_true, reduceCtorEq, bne_self_eq_false, Bool.true_bne, Bool.false_bne, Bool.not_false, Bool.not_true] at hcc hz2
            subst hcc hz2
            go_wp2_with fail
            go_meet
            exact ⟨hrng.out, rfl, hB2.out, hX2.out⟩
        have e3 : ((v.ty : Int) == 3) = false := by simp; omega
        have hfin := Lib.hid (hf.out 1 W1 (by rw [if_neg (by omega)]) hb1.out)
        clear ty1 ty2 ty3
        replace t1 := Lib.hid t1
        replace t2 := Lib.hid t2
        replace t3 := Lib.hid t3
        go_wp2_with fail
        exact hfin.out
      case rest =>
        rename World => w2
        obtain ⟨hrng, rfl, hb2, HX2⟩ := hcut
        replace hf := hf.out
        rw [if_pos hrng] at hf
        have b0 := HX2.cell (o := 0) rfl
        clear a0 v0 v1 hcm HX
        replace HX2 := Lib.hid HX2
        replace hrng := Lib.hid hrng
        have tr := Lib.hid (fun b => truth_any b w2)
        by_cases h4 : op = 4
        · have g4 : ((op : Int) == 4) = true := by simp; omega
          have hfin := Lib.hid (hf _ w2 rfl hb2)
          have ho : opT op cm = (cm == 0) := by unfold opT; rw [if_pos h4]; cases hz : (cm == 0) <;> simp_all
          rw [ho] at hfin
          have ct := Lib.hid (tr.out ((cm == 0)))
          clear tr hf ho
          replace hb2 := Lib.hid hb2
          replace h4 := Lib.hid h4
          go_wp2_with fail
          refine ct.out.mono ?_
          rintro e w3 ⟨rfl, rfl⟩
          go_wp2_with fail
          exact hfin.out
        have g4 : ((op : Int) == 4) = false := by simp; omega
        by_cases h5 : op = 5
        · have g5 : ((op : Int) == 5) = true := by simp; omega
          have hfin := Lib.hid (hf _ w2 rfl hb2)
          have ho : opT op cm = (cm != 0) := by unfold opT; rw [if_neg (by omega)]; rw [if_pos h5]; cases hz : (cm != 0) <;> simp_all
          rw [ho] at hfin
          have ct := Lib.hid (tr.out ((cm != 0)))
          clear tr hf ho
          replace hb2 := Lib.hid hb2
          replace h5 := Lib.hid h5
          go_wp2_with fail
          refine ct.out.mono ?_
          rintro e w3 ⟨rfl, rfl⟩
          go_wp2_with fail
          exact hfin.out
        have g5 : ((op : Int) == 5) = false := by simp; omega
        by_cases h6 : op = 6
        · have g6 : ((op : Int) == 6) = true := by simp; omega
          have hfin := Lib.hid (hf _ w2 rfl hb2)
          have ho : opT op cm = decide (cm < 0) := by unfold opT; rw [if_neg (by omega)]; rw [if_neg (by omega)]; rw [if_pos h6]
          rw [ho] at hfin
          have ct := Lib.hid (tr.out (decide (cm < 0)))
          clear tr hf ho
          replace hb2 := Lib.hid hb2
          replace h6 := Lib.hid h6
          go_wp2_with fail
          refine ct.out.mono ?_
          rintro e w3 ⟨rfl, rfl⟩
          go_wp2_with fail
          exact hfin.out
        have g6 : ((op : Int) == 6) = false := by simp; omega
        by_cases h7 : op = 7
        · have g7 : ((op : Int) == 7) = true := by simp; omega
          have hfin := Lib.hid (hf _ w2 rfl hb2)
          have ho : opT op cm = decide (cm ≤ 0) := by unfold opT; rw [if_neg (by omega)]; rw [if_neg (by omega)]; rw [if_neg (by omega)]; rw [if_pos h7]
          rw [ho] at hfin
          have ct := Lib.hid (tr.out (decide (cm ≤ 0)))
          clear tr hf ho
          replace hb2 := Lib.hid hb2
          replace h7 := Lib.hid h7
          go_wp2_with fail
          refine ct.out.mono ?_
          rintro e w3 ⟨rfl, rfl⟩
          go_wp2_with fail
          exact hfin.out
        have g7 : ((op : Int) == 7) = false := by simp; omega
        by_cases h8 : op = 8
        · have g8 : ((op : Int) == 8) = true := by simp; omega
          have hfin := Lib.hid (hf _ w2 rfl hb2)
          have ho : opT op cm = decide (0 < cm) := by unfold opT; rw [if_neg (by omega)]; rw [if_neg (by omega)]; rw [if_neg (by omega)]; rw [if_neg (by omega)]; rw [if_pos h8]
          rw [ho] at hfin
          have ct := Lib.hid (tr.out (decide (0 < cm)))
          clear tr hf ho
          replace hb2 := Lib.hid hb2
          replace h8 := Lib.hid h8
          go_wp2_with fail
          refine ct.out.mono ?_
          rintro e w3 ⟨rfl, rfl⟩
          go_wp2_with fail
          exact hfin.out
        have g8 : ((op : Int) == 8) = false := by simp; omega
        have hfin := Lib.hid (hf _ w2 rfl hb2)
        have ho : opT op cm = decide (0 ≤ cm) := by unfold opT; rw [if_neg h4, if_neg h5, if_neg h6, if_neg h7, if_neg h8]
        rw [ho] at hfin
        have ct := Lib.hid (tr.out (decide (0 ≤ cm)))
        clear tr hf ho
        replace hb2 := Lib.hid hb2
        go_wp2_with fail
        refine ct.out.mono ?_
        rintro e w3 ⟨rfl, rfl⟩
        go_wp2_with fail
        exact hfin.out
end Go.Proofs.YtgnoikfmhncbmaaGreatDoor
