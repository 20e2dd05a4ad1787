/- Walks: the law PlanJoins. -/
import Derived.Test.YtgnoikfmhncbmaaGreatDoorU11
import Derived.Test.YtgnoikfmhncbmaaGreatDoorE2
set_option linter.unusedVariables false
set_option linter.unusedSimpArgs false
namespace Go.Proofs.YtgnoikfmhncbmaaGreatDoor
open Go.RowKit Go.Lib Go.BigFrame
theorem wpList_loadD {P : Program} {w : World} {ops : Array Oper} {rest : List Oper} {a : Act} {Q : Exit → Act → World → Prop} {ty : TypeId} {pos : String} {after : Array Edge} {guard : Option (Nat × Bool)} (d : Tmp) (x : Operand) (t : TypeId) (v : Value)
    (hw : Region.wanted ⟨some d, .load t x, ty, pos, after, guard⟩ (yielded ops a.tmps) = true) (hrun : (Instr.loadAt t (a.eval x)).run P w = .ok v w) (h : wpList P ops Q rest (a.put (some d) v) w) : wpList P ops Q (⟨some d, .load t x, ty, pos, after, guard⟩ :: rest) a w :=
  wpList_loadG hw x t rfl v hrun h
theorem wpList_valG {P : Program} {w : World} {ops : Array Oper} {rest : List Oper} {o : Oper} {a : Act} {Q : Exit → Act → World → Prop} (hw : Region.wanted o (yielded ops a.tmps) = true) (v : Value) (w' : World) (hrun : (execOp a.eval o).run P w = .ok (.value v) w') (h : wpList P ops Q rest (a.put o.dst v) w') : wpList P ops Q (o :: rest) a w := by
  refine wpList_step fun K hK => ?_
  rw [if_pos hw]
  unfold Oper.wp
  simp only [hrun]
  exact hK _ _ h
theorem wpList_loadE {P : Program} {w : World} {ops : Array Oper} {rest : List Oper} {a a' : Act} {Q : Exit → Act → World → Prop} {ty : TypeId} {pos : String} {after : Array Edge} {guard : Option (Nat × Bool)} (d : Tmp) (x : Operand) (t : TypeId) (v : Value)
    (hw : Region.wanted ⟨some d, .load t x, ty, pos, after, guard⟩ (yielded ops a.tmps) = true) (hrun : (Instr.loadAt t (a.eval x)).run P w = .ok v w) (ha : a.put (some d) v = a') (h : wpList P ops Q rest a' w) : wpList P ops Q (⟨some d, .load t x, ty, pos, after, guard⟩ :: rest) a w :=
  wpList_loadG hw x t rfl v hrun (by rw [ha]; exact h)
theorem wpList_valE {P : Program} {w : World} {ops : Array Oper} {rest : List Oper} {a a' : Act} {Q : Exit → Act → World → Prop} {op : Op} {ty : TypeId} {pos : String} {after : Array Edge} {guard : Option (Nat × Bool)} (d : Tmp) (v : Value) (w' : World)
    (hw : Region.wanted ⟨some d, op, ty, pos, after, guard⟩ (yielded ops a.tmps) = true) (hrun : (execOp a.eval ⟨some d, op, ty, pos, after, guard⟩).run P w = .ok (.value v) w') (ha : a.put (some d) v = a') (h : wpList P ops Q rest a' w') : wpList P ops Q (⟨some d, op, ty, pos, after, guard⟩ :: rest) a w :=
  wpList_valG hw v w' hrun (by rw [ha]; exact h)
theorem wpList_valD {P : Program} {w : World} {ops : Array Oper} {rest : List Oper} {a : Act} {Q : Exit → Act → World → Prop} {op : Op} {ty : TypeId} {pos : String} {after : Array Edge} {guard : Option (Nat × Bool)} (d : Tmp) (v : Value) (w' : World)
    (hw : Region.wanted ⟨some d, op, ty, pos, after, guard⟩ (yielded ops a.tmps) = true) (hrun : (execOp a.eval ⟨some d, op, ty, pos, after, guard⟩).run P w = .ok (.value v) w') (h : wpList P ops Q rest (a.put (some d) v) w') : wpList P ops Q (⟨some d, op, ty, pos, after, guard⟩ :: rest) a w :=
  wpList_valG hw v w' hrun h
theorem quiet_loadJ {P : Program} {C : World → Prop} {o : Oper} {a : Act} {K : Act → Prop} (x : Operand) (t : TypeId) (ho : o.op = .load t x) (v : Value) (hrun : ∀ w, C w → (Instr.loadAt t (a.eval x)).run P w = .ok v w) {a' : Act} (ha : a.put o.dst v = a') (h : K a') : Oper.quiet P o a C K :=
  ⟨v, fun w hw => by
    have e : (execOp a.eval o).run P w = .ok (.value v) w := by
      unfold execOp
      simp only [ho, Sem.run_bind, Sem.run_pure, Result.andThen_ok, hrun w hw]
    show Oper.quietUpon P C w v ((execOp a.eval o).run P w)
    rw [e]
    exact ⟨rfl, rfl⟩, by rw [ha]; exact h⟩
theorem build_8 {o : Oper} {a : Act} (l1 h1 l2 h2 l3 h3 l4 h4 : RV) (ho : o.op = .buildSlice 64 8 #[(0, .tmp 100), (1, .tmp 101), (2, .tmp 102), (3, .tmp 103), (4, .tmp 104), (5, .tmp 105), (6, .tmp 106), (7, .tmp 107)])
    (e0 : a.eval (.tmp 100) = .agg #[.int .u8 (l1.ty : Int), .bool l1.nl, .int .i64 l1.n, .string l1.tx, .bool l1.b]) (e1 : a.eval (.tmp 101) = .agg #[.int .u8 (h1.ty : Int), .bool h1.nl, .int .i64 h1.n, .string h1.tx, .bool h1.b]) (e2 : a.eval (.tmp 102) = .agg #[.int .u8 (l2.ty : Int), .bool l2.nl, .int .i64 l2.n, .string l2.tx, .bool l2.b]) (e3 : a.eval (.tmp 103) = .agg #[.int .u8 (h2.ty : Int), .bool h2.nl, .int .i64 h2.n, .string h2.tx, .bool h2.b]) (e4 : a.eval (.tmp 104) = .agg #[.int .u8 (l3.ty : Int), .bool l3.nl, .int .i64 l3.n, .string l3.tx, .bool l3.b]) (e5 : a.eval (.tmp 105) = .agg #[.int .u8 (h3.ty : Int), .bool h3.nl, .int .i64 h3.n, .string h3.tx, .bool h3.b]) (e6 : a.eval (.tmp 106) = .agg #[.int .u8 (l4.ty : Int), .bool l4.nl, .int .i64 l4.n, .string l4.tx, .bool l4.b]) (e7 : a.eval (.tmp 107) = .agg #[.int .u8 (h4.ty : Int), .bool h4.nl, .int .i64 h4.n, .string h4.tx, .bool h4.b])
    (w : World) : (execOp a.eval o).run Tryz.prog w = .ok (.value (.slice (some ⟨w.heap.size, 0, none⟩) 8 8)) (w.alloc (.cells #[.int .u8 (l1.ty : Int), .bool l1.nl, .int .i64 l1.n, .string l1.tx, .bool l1.b, .int .u8 (h1.ty : Int), .bool h1.nl, .int .i64 h1.n, .string h1.tx, .bool h1.b, .int .u8 (l2.ty : Int), .bool l2.nl, .int .i64 l2.n, .string l2.tx, .bool l2.b, .int .u8 (h2.ty : Int), .bool h2.nl, .int .i64 h2.n, .string h2.tx, .bool h2.b, .int .u8 (l3.ty : Int), .bool l3.nl, .int .i64 l3.n, .string l3.tx, .bool l3.b, .int .u8 (h3.ty : Int), .bool h3.nl, .int .i64 h3.n, .string h3.tx, .bool h3.b, .int .u8 (l4.ty : Int), .bool l4.nl, .int .i64 l4.n, .string l4.tx, .bool l4.b, .int .u8 (h4.ty : Int), .bool h4.nl, .int .i64 h4.n, .string h4.tx, .bool h4.b] 28)) := by
  unfold execOp
  simp only [ho, List.map_toArray, List.map_cons, List.map_nil, e0, e1, e2, e3, e4, e5, e6, e7]
  simp [go_sem]
theorem val_load {w : World} {b : Nat} {v : RV} (hh : Has w b v.cells 28) : (Instr.loadAt 28 (.pointer (some ⟨b, 0, none⟩))).run Tryz.prog w = .ok (.agg #[.int .u8 (v.ty : Int), .bool v.nl, .int .i64 v.n, .string v.tx, .bool v.b]) w := by
  have h2 := run_loadCells_list (P := Tryz.prog) w ⟨b, 0, none⟩ v.cells (fun j u hv => news_at hh j u hv)
  have hl : v.cells.length = 5 := rfl
  rw [hl] at h2
  simp only [Instr.loadAt, Instr.sureAddr, loadVar, Sem.run_bind, Sem.run_pure, Result.andThen_ok, Tryz.isAgg28, Tryz.sizeOf28, if_true, h2]
  rfl
set_option maxHeartbeats 16000000 in
set_option maxRecDepth 100000 in
theorem joins_walk (l m : List Nd) (hl : ∀ x ∈ l, x.Fit) (hm : ∀ x ∈ m, x.Fit) (a0 b0 : Option Addr) (cap0 cap1 : Nat) (id : Nat) (a d : Int) (bs : ByteArray) (c : Bool) (nu : Nat) (ha : -2147483648 ≤ a ∧ a ≤ 2147483647) (hd : -2147483648 ≤ d ∧ d ≤ 2147483647) (hs : bs.size ≤ 9223372036854775807) (hu : nu < 256) (W : World) (hE : Env W) (rd : Rd W (.slice a0 l.length cap0) l.length (ndCells l)) (rd1 : Rd W (.slice b0 m.length cap1) m.length (ndCells m)) :
    Calls Tryz.prog 5 #[.slice a0 l.length cap0, .slice b0 m.length cap1, .agg #[.int .u32 (id : Int), .int .i32 a, .int .i32 d, .string bs, .bool c, .int .u8 (nu : Int)]] W (RPost W (.bool true)) := by
  generalize hpost : RPost W (.bool true) = post
  have hfin : ∀ w', Below W.heap.size W w' → post (.returned (.bool true)) w' := fun w' hb => by rw [← hpost]; exact ⟨rfl, hb⟩
  replace hpost := Lib.hid hpost
  replace hfin := Lib.hid hfin
  obtain ⟨W0, hW0⟩ : ∃ W0, W0 = W.alloc (.cells #[.int .u32 (id : Int), .int .i32 a, .int .i32 d, .string bs, .bool c, .int .u8 (nu : Int)] 53) := ⟨_, rfl⟩
  have hR : Has W0 W.heap.size [.int .u32 (id : Int), .int .i32 a, .int .i32 d, .string bs, .bool c, .int .u8 (nu : Int)] 53 := by rw [hW0]; exact Has.new W _ _
  have hb0 : Below W.heap.size W W0 := by rw [hW0]; exact (Below.refl _ _).alloc (Nat.le_refl _) _
  replace hW0 := Lib.hid hW0.symm
  obtain ⟨n, hn⟩ : ∃ n, l.length = n := ⟨_, rfl⟩
  obtain ⟨n2, hn2⟩ : ∃ n2, m.length = n2 := ⟨_, rfl⟩
  have htr : ∀ wx, Below W.heap.size W wx → Calls Tryz.prog 9 #[.slice a0 n cap0, .int .i64 0] wx (TreP (treeO l 24 0) wx) := fun wx hb => by rw [← hn]; exact tree_any l hl 24 0 _ wx (rd.kept hb) (by omega) (by omega)
  have htm : ∀ wx, Below W.heap.size W wx → Calls Tryz.prog 9 #[.slice b0 n2 cap1, .int .i64 0] wx (TreP (treeO m 24 0) wx) := fun wx hb => by rw [← hn2]; exact tree_any m hm 24 0 _ wx (rd1.kept hb) (by omega) (by omega)
  have haw := Lib.hid (awake_any W0 (hE.below hb0))
  rw [hn, hn2]
  replace htr := Lib.hid htr
  replace htm := Lib.hid htm
  replace hn := Lib.hid hn
  replace hn2 := Lib.hid hn2
  replace hR := Lib.hid hR
  replace hb0 := Lib.hid hb0
  replace ha := Lib.hid ha
  replace hd := Lib.hid hd
  replace hs := Lib.hid hs
  replace hu := Lib.hid hu
  clear rd rd1
  go_enter Tryz.func5, Tryz.ntmps5
  go_upto_region 1 with fail
  rw [hW0.out]
  go_wp2_with fail
  refine haw.out.mono ?_
  rintro e w1 ⟨rfl, hb1⟩
  have hR1 := hR.out.only (Only.of_below hb1) (Nat.not_le.2 hR.out.lt)
  have hb01 := hb0.out.trans (hb1.mono hb0.out.size)
  have htr1 := Lib.hid (htr.out w1 hb01)
  clear hb1 hb0 hR hW0 haw
  replace hR1 := Lib.hid hR1
  replace hb01 := Lib.hid hb01
  go_wp2_with fail
  refine htr1.out.mono ?_
  rintro e w2 ⟨s, rfl, hT, hb2⟩
  have hb02 := hb01.out.trans (hb2.mono hb01.out.size)
  have hR2 := hR1.out.only (Only.of_below hb2) (Nat.not_le.2 hR1.out.lt)
  have htm2 := Lib.hid (htm.out w2 hb02)
  have hTlt := hT.at'.lt
  obtain ⟨ps, hps⟩ := AT.isP s
  rw [hps]
  clear hb2 hb01 hR1 htr htr1
  replace hR2 := Lib.hid hR2
  replace hb02 := Lib.hid hb02
  replace hT := Lib.hid hT
  replace hTlt := Lib.hid hTlt
  replace hps := Lib.hid hps
  go_wp2_with fail
  refine htm2.out.mono ?_
  rintro e w3 ⟨u, rfl, hU, hb3⟩
  have hb03 := hb02.out.trans (hb3.mono hb02.out.size)
  have hR3 := hR2.out.only (Only.of_below hb3) (Nat.not_le.2 hR2.out.lt)
  have hT3 := hT.out.below hb3
  obtain ⟨pu, hpu⟩ := AT.isP u
  rw [hpu]
  have hdis : ∀ x ∈ s.addrs, x ∉ u.addrs := fun x hx hy => by have := hTlt.out x hx; have := hU.ge x hy; omega
  have hfs : s.Fit := fit_same hT.out.sm (treeO_fit l hl 24 0)
  have hfu : u.Fit := fit_same hU.sm (treeO_fit m hm 24 0)
  have hss : s.size ≤ 200000 := by rw [← size_sm hT.out.sm]; exact treeO_size24 l
  have hsu : u.size ≤ 200000 := by rw [← size_sm hU.sm]; exact treeO_size24 m
  have hns := hT.out.nd
  have hnu := hU.nd
  have hE3 := hE.below hb03
  have tb := Lib.hid (table_any 0 (by decide) w3)
  clear hb3 hb02 hR2 htm htm2 hT hTlt hE hl hm
  have hS3 : s.At w3 := hT3.at'
  have hU3 : u.At w3 := hU.at'
  clear hT3 hU
  replace hR3 := Lib.hid hR3
  replace hb03 := Lib.hid hb03
  replace hS3 := Lib.hid hS3
  replace hU3 := Lib.hid hU3
  replace hpu := Lib.hid hpu
  replace hdis := Lib.hid hdis
  replace hfs := Lib.hid hfs
  replace hfu := Lib.hid hfu
  replace hss := Lib.hid hss
  replace hsu := Lib.hid hsu
  replace hns := Lib.hid hns
  replace hnu := Lib.hid hnu
  replace hE3 := Lib.hid hE3
  go_wp2_with fail
  refine tb.out.mono ?_
  rintro e w4 ⟨ca, cc, ia, ic, rfl, hrc, _, hb4⟩
  dsimp only [tabI]
  have hS4 := hS3.out.below hb4
  have hU4 := hU3.out.below hb4
  have hR4 := hR3.out.only (Only.of_below hb4) (Nat.not_le.2 hR3.out.lt)
  have hb04 := hb03.out.trans (hb4.mono hb03.out.size)
  have hE4 := hE3.out.below hb4
  obtain ⟨il, hil⟩ : ∃ il, (digD 0).length = il := ⟨_, rfl⟩
  rw [hil]
  clear hS3 hU3 hR3 hb03 hE3 hb4 tb hil
  replace hS4 := Lib.hid hS4
  replace hU4 := Lib.hid hU4
  replace hR4 := Lib.hid hR4
  replace hb04 := Lib.hid hb04
  replace hE4 := Lib.hid hE4
  replace hrc := Lib.hid hrc
  go_upto_region 5 with fail
  obtain ⟨W5, hW5⟩ : ∃ W5, W5 = w4.alloc (.cells #[.string tagS, .int .i64 1, .slice ca 4 cc, .slice ia il ic, .int .u64 0, .int .u64 0] 59) := ⟨_, rfl⟩
  have hB5 : Below w4.heap.size w4 W5 := by rw [hW5]; exact (Below.refl _ _).alloc (Nat.le_refl _) _
  have HT : Has W5 w4.heap.size [.string tagS, .int .i64 1, .slice ca 4 cc, .slice ia il ic, .int .u64 0, .int .u64 0] 59 := by rw [hW5]; exact Has.new w4 _ _
  rw [← hW5]
  clear hW5
  have hS5 := hS4.out.below hB5
  have hU5 := hU4.out.below hB5
  have hR5 := hR4.out.only (Only.of_below hB5) (Nat.not_le.2 hR4.out.lt)
  have hb05 := hb04.out.trans (hB5.mono hb04.out.size)
  have hE5 := hE4.out.below hB5
  have hrc5 := hrc.out.kept hB5
  clear hS4 hU4 hR4 hb04 hE4 hrc hB5
  have ck : ∀ (t : AT), t.At W5 → t.addrs.Nodup → t.size ≤ 200000 → ∀ wx, Below W5.heap.size W5 wx → Calls Tryz.prog 18 #[t.ptr, .agg #[.string tagS, .int .i64 1, .slice ca 4 cc, .slice ia il ic, .int .u64 0, .int .u64 0]] wx (RPost wx (.int .i64 ((checkP (colsT 4) t : Nat) : Int))) := fun t h1 h2 h3 wx hx => check_any (root := t) (h1.below hx) h2 (by omega) tagS 1 (colsT 4) ca cc ia il ic (hrc5.kept hx) (by decide)
  have ckS := ck s hS5 hns.out hss.out
  have ckU := ck u hU5 hnu.out hsu.out
  rw [hps.out] at ckS
  rw [hpu.out] at ckU
  clear ck
  obtain ⟨es, hes⟩ : ∃ e, checkP (colsT 4) s = e := ⟨_, rfl⟩
  obtain ⟨eu, heu⟩ : ∃ e, checkP (colsT 4) u = e := ⟨_, rfl⟩
  rw [hes] at ckS
  rw [heu] at ckU
  have kT := fun wx (hb : Below W5.heap.size W5 wx) => HT.only (Only.of_below hb) (Nat.not_le.2 HT.lt)
  have kR := fun wx (hb : Below W5.heap.size W5 wx) => hR5.only (Only.of_below hb) (Nat.not_le.2 hR5.lt)
  have kS := fun wx (hb : Below W5.heap.size W5 wx) => hS5.below hb
  have kU := fun wx (hb : Below W5.heap.size W5 wx) => hU5.below hb
  have kE := fun wx (hb : Below W5.heap.size W5 wx) => hE5.below hb
  have kF := fun wx (hb : Below W5.heap.size W5 wx) => hfin.out wx (hb05.trans (hb.mono hb05.size))
  have kG := fun wx (hb : Below W5.heap.size W5 wx) => hb05.trans (hb.mono hb05.size)
  have t0 := HT.cell (o := 0) rfl
  have t1 := HT.cell (o := 1) rfl
  have t2 := HT.cell (o := 2) rfl
  have t3 := HT.cell (o := 3) rfl
  have t4 := HT.cell (o := 4) rfl
  have t5 := HT.cell (o := 5) rfl
  have fin5 := Lib.hid (kF W5 (Below.refl _ _))
  clear HT hR5 hS5 hU5 hE5 hfin hb05
  replace ckS := Lib.hid ckS
  replace ckU := Lib.hid ckU
  replace hes := Lib.hid hes
  replace heu := Lib.hid heu
  replace kT := Lib.hid kT
  replace kR := Lib.hid kR
  replace kS := Lib.hid kS
  replace kU := Lib.hid kU
  replace kE := Lib.hid kE
  replace kF := Lib.hid kF
  replace kG := Lib.hid kG
  replace hrc5 := Lib.hid hrc5
  cases s with
  | nil =>
    have hq : ps = none := by have := hps.out; simpa [AT.ptr] using this.symm
    subst hq
    go_wp2_with fail
    exact fin5.out
  | node bS oS cS vS lS rS =>
    have hq : ps = some ⟨bS, 0, none⟩ := by have := hps.out; simpa [AT.ptr] using this.symm
    subst hq
    cases u with
    | nil =>
      have hq : pu = none := by have := hpu.out; simpa [AT.ptr] using this.symm
      subst hq
      go_wp2_with fail
      exact fin5.out
    | node bU oU cU vU lU rU =>
      have hq : pu = some ⟨bU, 0, none⟩ := by have := hpu.out; simpa [AT.ptr] using this.symm
      subst hq
      obtain ⟨s, hsq⟩ : ∃ s, s = AT.node bS oS cS vS lS rS := ⟨_, rfl⟩
      obtain ⟨u, huq⟩ : ∃ u, u = AT.node bU oU cU vU lU rU := ⟨_, rfl⟩
      have hsn : s.nil? = false := by rw [hsq]; rfl
      have hun : u.nil? = false := by rw [huq]; rfl
      rw [← hsq] at hes hps kS hdis hfs hss hns
      rw [← huq] at heu hpu kU hdis hfu hsu hnu
      clear hsq huq cS vS lS rS oS cU vU lU rU oU
      replace hsn := Lib.hid hsn
      replace hun := Lib.hid hun
      have ck1 := Lib.hid (ckS.out W5 (Below.refl _ _))
      go_wp2_with fail
      refine ck1.out.mono ?_
      rintro e w6 ⟨rfl, hb6⟩
      clear t0 t1 t2 t3 t4 t5 ck1 fin5
      by_cases g1 : ¬ (es = 0)
      · have fin6 := Lib.hid (kF.out w6 hb6)
        have n1 : ((es : Int) != 0) = true := by simp; exact g1
        clear hb6 g1
        go_wp2_with fail
        exact fin6.out
      replace g1 := Classical.not_not.1 g1
      subst g1
      have n1 : (((0 : Nat) : Int) != 0) = false := rfl
      have HT6 := kT.out w6 hb6
      have t0 := HT6.cell (o := 0) rfl
      have t1 := HT6.cell (o := 1) rfl
      have t2 := HT6.cell (o := 2) rfl
      have t3 := HT6.cell (o := 3) rfl
      have t4 := HT6.cell (o := 4) rfl
      have t5 := HT6.cell (o := 5) rfl
      have ck2 := Lib.hid (ckU.out w6 hb6)
      replace HT6 := Lib.hid HT6
      replace hb6 := Lib.hid hb6
      go_wp2_with fail
      refine ck2.out.mono ?_
      rintro e w7 ⟨rfl, hb7⟩
      have hb57 := hb6.out.trans (hb7.mono hb6.out.size)
      clear t0 t1 t2 t3 t4 t5 ck2 hb6 HT6 hb7 n1
      by_cases g2 : ¬ (eu = 0)
      · have fin7 := Lib.hid (kF.out w7 hb57)
        have n2 : ((eu : Int) != 0) = true := by simp; exact g2
        clear g2
        replace hb57 := Lib.hid hb57
        go_wp2_with fail
        exact fin7.out
      replace g2 := Classical.not_not.1 g2
      subst g2
      have n2 : (((0 : Nat) : Int) != 0) = false := rfl
      have wS := wf_check hes.out
      have wU := wf_check heu.out
      clear hes heu ckS ckU kT
      have hR7 := kR.out w7 hb57
      have r0 := hR7.cell (o := 0) rfl
      have r1 := hR7.cell (o := 1) rfl
      have r2 := hR7.cell (o := 2) rfl
      have r3 := hR7.cell (o := 3) rfl
      have r4 := hR7.cell (o := 4) rfl
      have r5 := hR7.cell (o := 5) rfl
      have rv := Lib.hid (rowvalues_any id a d bs c nu ha.out hd.out hs.out hu.out w7)
      replace hR7 := Lib.hid hR7
      replace hb57 := Lib.hid hb57
      replace wS := Lib.hid wS
      replace wU := Lib.hid wU
      go_wp2_with fail
      refine rv.out.mono ?_
      rintro e w8 ⟨bv, rfl, HV, hbv, hb8⟩
      clear r0 r1 r2 r3 r4 r5 rv hR7 n2 kR
      have hb58 := hb57.out.trans (hb8.mono hb57.out.size)
      clear hb8 hb57 hbv
      have hlen : (rowL a d bs c nu).length = 4 := by simp [rowL]
      have rdV : Rd w8 (.slice (some ⟨bv, 0, none⟩) 4 4) 4 (vCells (rowL a d bs c nu)) := Rd.of_has HV 4 4
      obtain ⟨aV, haV⟩ : ∃ q : Option Addr, some ⟨bv, 0, none⟩ = q := ⟨_, rfl⟩
      have hslc : ∃ nV cV : Nat, nV = 4 ∧ Value.slice (some ⟨bv, 0, none⟩) 4 4 = Value.slice aV nV cV := ⟨4, 4, rfl, by rw [haV]⟩
      obtain ⟨nV, cV, hnV, hsl⟩ := hslc
      rw [hsl] at rdV ⊢
      have hcell : ∀ k, k < nV → ∃ b off, aV = some ⟨b, off, none⟩ ∧ ∀ wx, Below w8.heap.size w8 wx → ∀ j y, ((rowL a d bs c nu).getD k RV0).cells[j]? = some y → wx.cell? ⟨b, off + k * 5 + j, none⟩ = some y := fun k hk => by
        have rd2 := rdV
        rw [← hsl] at rd2
        obtain ⟨b, off, cap, hv, hc⟩ := rd2.cells (by omega)
        rw [hsl] at hv
        simp only [Value.slice.injEq] at hv
        refine ⟨b, off, hv.1, fun wx hb j y hj => ?_⟩
        have := cellk hb (hc _ _ (vc_get (by rw [hlen]; omega) j y hj))
        rw [← Nat.add_assoc] at this
        exact this
      have hG : ∀ k, k < nV → ((rowL a d bs c nu).getD k RV0).ty = tyC k ∧ ((rowL a d bs c nu).getD k RV0).tx.size ≤ 10 ∧ (((rowL a d bs c nu).getD k RV0).nl = false → formP ((rowL a d bs c nu).getD k RV0) = 0) := fun k hk => by
        have e : (rowL a d bs c nu).getD k RV0 = rowV a d bs c nu k := by
          unfold rowL
          rw [List.getD, List.getElem?_map, List.getElem?_range (by omega)]; rfl
        rw [e]; exact row_form ha.out hd.out k (by omega)
      generalize (rowL a d bs c nu).getD = G at *
      clear rdV hlen HV hsl haV
      have hn4 : nV ≤ 4 := by omega
      replace hcell := Lib.hid hcell
      replace hG := Lib.hid hG
      replace hb58 := Lib.hid hb58
      replace hn4 := Lib.hid hn4
      replace hnV := Lib.hid hnV
      go_wp2_with fail
      go_loopw [55] (fun i wr => ∃ k : Nat, k ≤ nV ∧ i = .int .i64 (k : Int) ∧ Below w8.heap.size w8 wr) (fun i _ => nV - (RowKit.intOf i).toNat)
      case atStart => exact ⟨0, by omega, rfl, Below.refl _ _⟩
      case round =>
        obtain ⟨k, hk, rfl, hB⟩ := hrel
        by_cases hlt : ¬ (k < nV)
        · have hkn : k = nV := by omega
          subst hkn
          have k1 : ¬ (k : Int) < (k : Int) := by omega
          have kd : decide ((k : Int) < (k : Int)) = false := decide_eq_false k1
          have hfn := Lib.hid (kF.out wr (hb58.out.trans (hB.mono hb58.out.size)))
          clear hB
          go_wp2_with fail
          exact hfn.out
        replace hlt := Classical.not_not.1 hlt
        have k1 : (k : Int) < (nV : Int) := by omega
        have hn4' := hn4.out
        have kw := Lib.hid (show wrap64 ((k : Int) + 1) = ((k + 1 : Nat) : Int) from by unfold wrap64; omega)
        have k8 : IntKind.u8.wrap (k : Int) = (k : Int) := by rw [IntKind.wrap_u8']; omega
        have kd : decide ((k : Int) < (nV : Int)) = true := decide_eq_true k1
        have k0 : (0 : Int) ≤ (k : Int) := by omega
        obtain ⟨b, off, rfl, hc⟩ := hcell.out k hlt
        obtain ⟨g1, g2, g3⟩ := hG.out k hlt
        have hkind := kind_col k (by omega)
        have hcl := Lib.hid (fun wx => column_any k (by omega) wx)
        obtain ⟨v, hv⟩ : ∃ v, G k RV0 = v := ⟨_, rfl⟩
        rw [hv] at hc g1 g2 g3
        have hc2 := hc wr hB
        have c0 : wr.cell? ⟨b, off + k * 5, none⟩ = some (.int .u8 (v.ty : Int)) := hc2 0 _ rfl
        have c1 : wr.cell? ⟨b, off + k * 5 + 1, none⟩ = some (.bool v.nl) := hc2 1 _ rfl
        have c2 : wr.cell? ⟨b, off + k * 5 + 2, none⟩ = some (.int .i64 v.n) := hc2 2 _ rfl
        have c3 : wr.cell? ⟨b, off + k * 5 + 3, none⟩ = some (.string v.tx) := hc2 3 _ rfl
        have c4 : wr.cell? ⟨b, off + k * 5 + 4, none⟩ = some (.bool v.b) := hc2 4 _ rfl
        obtain ⟨cn, hcn⟩ : ∃ cn, colN k = cn := ⟨_, rfl⟩
        rw [hcn] at hcl hkind
        obtain ⟨p, hp⟩ : ∃ p, bndP cn s = p := ⟨_, rfl⟩
        obtain ⟨q, hq⟩ : ∃ q, bndP cn u = q := ⟨_, rfl⟩
        have hJ : v.nl = false → okB p.lo = true → okB p.hi = true → okB q.lo = true → okB q.hi = true → withinP v (lowA p.lo q.lo) (highA p.hi q.hi) = (withinP v p.lo p.hi && withinP v q.lo q.hi) ∧ ((withinP v p.lo p.hi || withinP v q.lo q.hi) = true → withinP v (lowO p.lo q.lo) (highO p.hi q.hi) = true) := fun hvn o1 o2 o3 o4 => by
          rw [← hp, ← hq] at *
          exact joins_plain hkind (g3 hvn) hvn g1 wS.out wU.out o1 o2 o3 o4
        have bdp := bndP.bd cn hfs.out
        have bdq := bndP.bd cn hfu.out
        rw [hp] at bdp
        rw [hq] at bdq
        have qS := fun wx (hx : Below W5.heap.size W5 wx) => bounds_any s cn wx (kS.out wx hx) hns.out hfs.out (Nat.le_trans hss.out (by decide)) (kE.out wx hx)
        rw [hps.out, hp] at qS
        have qU := fun wx (hx : Below W5.heap.size W5 wx) => bounds_any u cn wx (kU.out wx hx) hnu.out hfu.out (Nat.le_trans hsu.out (by decide)) (kE.out wx hx)
        rw [hpu.out, hq] at qU
        have qN : ∀ (op x : Nat) (wx : World), op < 256 → Below W5.heap.size W5 wx → Has wx x (exCells op s.ptr u.ptr ⟨#[]⟩ RV0) 46 → w8.heap.size ≤ x → Calls Tryz.prog 10 #[.pointer (some ⟨x, 0, none⟩), .string cn] wx (RPost wx (bndV (bndP cn (.node x op ⟨#[]⟩ RV0 s u)))) := fun op x wx ho hx hh hxg => by
          have h58 := hb58.out.size
          have hz := (kS.out w8 hb58.out).lt
          have hy := (kU.out w8 hb58.out).lt
          refine bounds_any (.node x op ⟨#[]⟩ RV0 s u) cn wx ⟨hh, kS.out wx hx, kU.out wx hx⟩ ?_ ⟨ho, Nat.zero_le _, by decide, Nat.zero_le _, hfs.out, hfu.out⟩ ?_ (kE.out wx hx)
          · show (x :: (s.addrs ++ u.addrs)).Nodup
            rw [List.nodup_cons, List.nodup_append]
            refine ⟨fun hm => ?_, hns.out, hnu.out, fun y h1 z h2 e => hdis.out y h1 (e ▸ h2)⟩
            rcases List.mem_append.1 hm with h | h
            · have := hz x h; omega
            · have := hy x h; omega
          · have := hss.out; have := hsu.out
            show s.size + u.size + 1 ≤ _; omega
        rw [hps.out, hpu.out] at qN
        have qA : ∀ x, bndP cn (.node x 1 ⟨#[]⟩ RV0 s u) = bothP p q := fun x => by
          rw [bndP, if_pos (by unfold pairB; rw [isNil_q, isNil_q, hsn.out, hun.out]; rfl), if_pos rfl, hp, hq]
        have qO : ∀ x, bndP cn (.node x 2 ⟨#[]⟩ RV0 s u) = eitherP p q := fun x => by
          rw [bndP, if_pos (by unfold pairB; rw [isNil_q, isNil_q, hsn.out, hun.out]; rfl), if_neg (by decide), hp, hq]
        clear hc hc2 hcn hkind hn4' g1 g3 hv
        have hBr := hb58.out.trans (hB.mono hb58.out.size)
        obtain ⟨⟨l1, h1, x1⟩, rfl⟩ : ∃ y, y = p := ⟨_, rfl⟩
        obtain ⟨⟨l2, h2, x2⟩, rfl⟩ : ∃ y, y = q := ⟨_, rfl⟩
        obtain ⟨l3, hl3⟩ : ∃ y, lowA l1 l2 = y := ⟨_, rfl⟩
        obtain ⟨h3, hh3⟩ : ∃ y, highA h1 h2 = y := ⟨_, rfl⟩
        obtain ⟨l4, hl4⟩ : ∃ y, lowO l1 l2 = y := ⟨_, rfl⟩
        obtain ⟨h4, hh4⟩ : ∃ y, highO h1 h2 = y := ⟨_, rfl⟩
        obtain ⟨x3, hx3⟩ : ∃ y, (bothP ⟨l1, h1, x1⟩ ⟨l2, h2, x2⟩) = ⟨l3, h3, y⟩ := ⟨_, by unfold bothP; rw [hl3, hh3]⟩
        have hx4 : eitherP ⟨l1, h1, x1⟩ ⟨l2, h2, x2⟩ = ⟨l4, h4, false⟩ := by unfold eitherP; rw [hl4, hh4]
        have bd3 := bothP.bd bdp bdq
        have bd4 := eitherP.bd bdp bdq
        rw [hx3] at bd3
        rw [hx4] at bd4
        simp only [hl3, hh3, hl4, hh4] at hJ
        simp only [hx3] at qA
        simp only [hx4] at qO
        unfold bndV at qS qU
        dsimp only [RV.val] at qS qU
        clear hp hq hl3 hh3 hl4 hh4 hx3 hx4
        replace hJ := Lib.hid hJ
        replace bdp := Lib.hid bdp
        replace bdq := Lib.hid bdq
        replace bd3 := Lib.hid bd3
        replace bd4 := Lib.hid bd4
        replace qS := Lib.hid qS
        replace qU := Lib.hid qU
        replace qN := Lib.hid qN
        replace qA := Lib.hid qA
        replace qO := Lib.hid qO
        replace g2 := Lib.hid g2
        obtain ⟨W9, hW9⟩ : ∃ W9, W9 = wr.alloc (.cells #[.int .u8 (v.ty : Int), .bool v.nl, .int .i64 v.n, .string v.tx, .bool v.b] 28) := ⟨_, rfl⟩
        have hb9 : Below wr.heap.size wr W9 := by rw [hW9]; exact (Below.refl _ _).alloc (Nat.le_refl _) _
        have Hv : Has W9 wr.heap.size v.cells 28 := by rw [hW9]; exact Has.new wr v.cells _
        replace hW9 := Lib.hid hW9.symm
        have hbw : Below wr.heap.size wr W9 := hb9
        have hg := Lib.hid hb9.size
        replace hb9 := Lib.hid hb9
        replace hbw := Lib.hid hbw
        replace Hv := Lib.hid Hv
        replace hB := Lib.hid hB
        replace hBr := Lib.hid hBr
        go_upto_region 10 with fail
        rw [hW9.out]
        clear c0 c1 c2 c3 c4
        have hcl9 := Lib.hid (hcl.out W9)
        go_wp2_with fail
        refine hcl9.out.mono ?_
        rintro e w10 ⟨rfl, hb10⟩
        have hbw10 := hbw.out.trans (hb10.mono hbw.out.size)
        have Hv10 := Hv.out.only (Only.of_below hb10) (Nat.not_le.2 Hv.out.lt)
        clear hb10 hcl9 hb9 hbw Hv hW9 hcl
        replace Hv10 := Lib.hid Hv10
        replace hbw10 := Lib.hid hbw10
        have cb := Lib.hid (qS.out w10 (hBr.out.trans (hbw10.out.mono hBr.out.size)))
        go_wp2_with fail
        refine cb.out.mono ?_
        rintro e w11 ⟨rfl, hb11⟩
        clear cb
        replace Hv10 := Hv10.out.only (Only.of_below hb11) (Nat.not_le.2 Hv10.out.lt)
        have hbw11 := hbw10.out.trans (hb11.mono hbw10.out.size)
        clear hb11 hbw10
        replace Hv10 := Lib.hid Hv10
        replace hbw11 := Lib.hid hbw11
        obtain ⟨B11, hB11⟩ : ∃ B11, B11 = (w11.alloc (.cells #[.int .u8 (l1.ty : Int), .bool l1.nl, .int .i64 l1.n, .string l1.tx, .bool l1.b] 28)).alloc (.cells #[.int .u8 (h1.ty : Int), .bool h1.nl, .int .i64 h1.n, .string h1.tx, .bool h1.b] 28) := ⟨_, rfl⟩
        have hbB11 : Below w11.heap.size w11 B11 := by rw [hB11]; exact ((Below.refl _ _).alloc (Nat.le_refl _) _).alloc (by simp) _
        have Hl1 : Has B11 w11.heap.size l1.cells 28 := by rw [hB11]; exact (Has.new w11 l1.cells _).alloc _
        have Hh1 : Has B11 (w11.heap.size + 1) h1.cells 28 := by rw [hB11]; have h := Has.new (w11.alloc (.cells #[.int .u8 (l1.ty : Int), .bool l1.nl, .int .i64 l1.n, .string l1.tx, .bool l1.b] 28)) h1.cells 28; simp only [World.size_alloc] at h; exact h
        replace Hv10 := Hv10.out.only (Only.of_below hbB11) (Nat.not_le.2 Hv10.out.lt)
        replace Hv10 := Lib.hid Hv10
        replace Hl1 := Lib.hid Hl1
        replace Hh1 := Lib.hid Hh1
        have hwB11 := hbw11.out.trans (hbB11.mono hbw11.out.size)
        clear hbB11 hbw11
        replace hB11 := Lib.hid hB11.symm
        replace hwB11 := Lib.hid hwB11
        go_upto_region 12 with fail
        rw [hB11.out]
        clear hB11
        have cb := Lib.hid (qU.out B11 (hBr.out.trans (hwB11.out.mono hBr.out.size)))
        go_wp2_with fail
        refine cb.out.mono ?_
        rintro e w12 ⟨rfl, hb12⟩
        clear cb
        replace Hv10 := Hv10.out.only (Only.of_below hb12) (Nat.not_le.2 Hv10.out.lt)
        replace Hl1 := Hl1.out.only (Only.of_below hb12) (Nat.not_le.2 Hl1.out.lt)
        replace Hh1 := Hh1.out.only (Only.of_below hb12) (Nat.not_le.2 Hh1.out.lt)
        have hbw12 := hwB11.out.trans (hb12.mono hwB11.out.size)
        clear hb12 hwB11
        replace Hv10 := Lib.hid Hv10
        replace Hl1 := Lib.hid Hl1
        replace Hh1 := Lib.hid Hh1
        replace hbw12 := Lib.hid hbw12
        obtain ⟨B12, hB12⟩ : ∃ B12, B12 = (w12.alloc (.cells #[.int .u8 (l2.ty : Int), .bool l2.nl, .int .i64 l2.n, .string l2.tx, .bool l2.b] 28)).alloc (.cells #[.int .u8 (h2.ty : Int), .bool h2.nl, .int .i64 h2.n, .string h2.tx, .bool h2.b] 28) := ⟨_, rfl⟩
        have hbB12 : Below w12.heap.size w12 B12 := by rw [hB12]; exact ((Below.refl _ _).alloc (Nat.le_refl _) _).alloc (by simp) _
        have Hl2 : Has B12 w12.heap.size l2.cells 28 := by rw [hB12]; exact (Has.new w12 l2.cells _).alloc _
        have Hh2 : Has B12 (w12.heap.size + 1) h2.cells 28 := by rw [hB12]; have h := Has.new (w12.alloc (.cells #[.int .u8 (l2.ty : Int), .bool l2.nl, .int .i64 l2.n, .string l2.tx, .bool l2.b] 28)) h2.cells 28; simp only [World.size_alloc] at h; exact h
        replace Hv10 := Hv10.out.only (Only.of_below hbB12) (Nat.not_le.2 Hv10.out.lt)
        replace Hl1 := Hl1.out.only (Only.of_below hbB12) (Nat.not_le.2 Hl1.out.lt)
        replace Hh1 := Hh1.out.only (Only.of_below hbB12) (Nat.not_le.2 Hh1.out.lt)
        replace Hv10 := Lib.hid Hv10
        replace Hl1 := Lib.hid Hl1
        replace Hh1 := Lib.hid Hh1
        replace Hl2 := Lib.hid Hl2
        replace Hh2 := Lib.hid Hh2
        have hwB12 := hbw12.out.trans (hbB12.mono hbw12.out.size)
        clear hbB12 hbw12
        replace hB12 := Lib.hid hB12.symm
        replace hwB12 := Lib.hid hwB12
        go_upto_region 13 with fail
        rw [hB12.out]
        clear hB12
        obtain ⟨NA, hNA⟩ : ∃ NA, NA = B12.alloc (.cells #[.int .u8 1, .pointer (some ⟨bS, 0, none⟩), .pointer (some ⟨bU, 0, none⟩), .string ⟨#[]⟩, .int .u8 0, .bool false, .int .i64 0, .string ⟨#[]⟩, .bool false] 46) := ⟨_, rfl⟩
        have hbNA : Below B12.heap.size B12 NA := by rw [hNA]; exact (Below.refl _ _).alloc (Nat.le_refl _) _
        have HNA : Has NA B12.heap.size (exCells 1 (.pointer (some ⟨bS, 0, none⟩)) (.pointer (some ⟨bU, 0, none⟩)) ⟨#[]⟩ RV0) 46 := by rw [hNA]; exact Has.new B12 [.int .u8 1, .pointer (some ⟨bS, 0, none⟩), .pointer (some ⟨bU, 0, none⟩), .string ⟨#[]⟩, .int .u8 0, .bool false, .int .i64 0, .string ⟨#[]⟩, .bool false] _
        replace hNA := Lib.hid hNA.symm
        have hgNA := Nat.le_trans hB.out.size hwB12.out.size
        have hwNA := hwB12.out.trans (hbNA.mono hwB12.out.size)
        have cb := qN.out 1 B12.heap.size NA (by decide) (hBr.out.trans (hwNA.mono hBr.out.size)) HNA hgNA
        rw [qA.out] at cb
        unfold bndV at cb
        dsimp only [RV.val] at cb
        replace cb := Lib.hid cb
        replace Hv10 := Hv10.out.only (Only.of_below hbNA) (Nat.not_le.2 Hv10.out.lt)
        replace Hl1 := Hl1.out.only (Only.of_below hbNA) (Nat.not_le.2 Hl1.out.lt)
        replace Hh1 := Hh1.out.only (Only.of_below hbNA) (Nat.not_le.2 Hh1.out.lt)
        replace Hl2 := Hl2.out.only (Only.of_below hbNA) (Nat.not_le.2 Hl2.out.lt)
        replace Hh2 := Hh2.out.only (Only.of_below hbNA) (Nat.not_le.2 Hh2.out.lt)
        replace Hv10 := Lib.hid Hv10
        replace Hl1 := Lib.hid Hl1
        replace Hh1 := Lib.hid Hh1
        replace Hl2 := Lib.hid Hl2
        replace Hh2 := Lib.hid Hh2
        clear hbNA hgNA HNA
        replace hwNA := Lib.hid hwNA
        go_wp2_with fail
        rw [hNA.out]
        refine cb.out.mono ?_
        rintro e w13 ⟨rfl, hb13⟩
        clear cb
        replace Hv10 := Hv10.out.only (Only.of_below hb13) (Nat.not_le.2 Hv10.out.lt)
        replace Hl1 := Hl1.out.only (Only.of_below hb13) (Nat.not_le.2 Hl1.out.lt)
        replace Hh1 := Hh1.out.only (Only.of_below hb13) (Nat.not_le.2 Hh1.out.lt)
        replace Hl2 := Hl2.out.only (Only.of_below hb13) (Nat.not_le.2 Hl2.out.lt)
        replace Hh2 := Hh2.out.only (Only.of_below hb13) (Nat.not_le.2 Hh2.out.lt)
        have hbw13 := hwNA.out.trans (hb13.mono hwNA.out.size)
        clear hb13 hwNA
        replace Hv10 := Lib.hid Hv10
        replace Hl1 := Lib.hid Hl1
        replace Hh1 := Lib.hid Hh1
        replace Hl2 := Lib.hid Hl2
        replace Hh2 := Lib.hid Hh2
        replace hbw13 := Lib.hid hbw13
        obtain ⟨B13, hB13⟩ : ∃ B13, B13 = (w13.alloc (.cells #[.int .u8 (l3.ty : Int), .bool l3.nl, .int .i64 l3.n, .string l3.tx, .bool l3.b] 28)).alloc (.cells #[.int .u8 (h3.ty : Int), .bool h3.nl, .int .i64 h3.n, .string h3.tx, .bool h3.b] 28) := ⟨_, rfl⟩
        have hbB13 : Below w13.heap.size w13 B13 := by rw [hB13]; exact ((Below.refl _ _).alloc (Nat.le_refl _) _).alloc (by simp) _
        have Hl3 : Has B13 w13.heap.size l3.cells 28 := by rw [hB13]; exact (Has.new w13 l3.cells _).alloc _
        have Hh3 : Has B13 (w13.heap.size + 1) h3.cells 28 := by rw [hB13]; have h := Has.new (w13.alloc (.cells #[.int .u8 (l3.ty : Int), .bool l3.nl, .int .i64 l3.n, .string l3.tx, .bool l3.b] 28)) h3.cells 28; simp only [World.size_alloc] at h; exact h
        replace Hv10 := Hv10.out.only (Only.of_below hbB13) (Nat.not_le.2 Hv10.out.lt)
        replace Hl1 := Hl1.out.only (Only.of_below hbB13) (Nat.not_le.2 Hl1.out.lt)
        replace Hh1 := Hh1.out.only (Only.of_below hbB13) (Nat.not_le.2 Hh1.out.lt)
        replace Hl2 := Hl2.out.only (Only.of_below hbB13) (Nat.not_le.2 Hl2.out.lt)
        replace Hh2 := Hh2.out.only (Only.of_below hbB13) (Nat.not_le.2 Hh2.out.lt)
        replace Hv10 := Lib.hid Hv10
        replace Hl1 := Lib.hid Hl1
        replace Hh1 := Lib.hid Hh1
        replace Hl2 := Lib.hid Hl2
        replace Hh2 := Lib.hid Hh2
        replace Hl3 := Lib.hid Hl3
        replace Hh3 := Lib.hid Hh3
        have hwB13 := hbw13.out.trans (hbB13.mono hbw13.out.size)
        clear hbB13 hbw13
        replace hB13 := Lib.hid hB13.symm
        replace hwB13 := Lib.hid hwB13
        go_upto_region 14 with fail
        rw [hB13.out]
        clear hB13
        obtain ⟨NO, hNO⟩ : ∃ NO, NO = B13.alloc (.cells #[.int .u8 2, .pointer (some ⟨bS, 0, none⟩), .pointer (some ⟨bU, 0, none⟩), .string ⟨#[]⟩, .int .u8 0, .bool false, .int .i64 0, .string ⟨#[]⟩, .bool false] 46) := ⟨_, rfl⟩
        have hbNO : Below B13.heap.size B13 NO := by rw [hNO]; exact (Below.refl _ _).alloc (Nat.le_refl _) _
        have HNO : Has NO B13.heap.size (exCells 2 (.pointer (some ⟨bS, 0, none⟩)) (.pointer (some ⟨bU, 0, none⟩)) ⟨#[]⟩ RV0) 46 := by rw [hNO]; exact Has.new B13 [.int .u8 2, .pointer (some ⟨bS, 0, none⟩), .pointer (some ⟨bU, 0, none⟩), .string ⟨#[]⟩, .int .u8 0, .bool false, .int .i64 0, .string ⟨#[]⟩, .bool false] _
        replace hNO := Lib.hid hNO.symm
        have hgNO := Nat.le_trans hB.out.size hwB13.out.size
        have hwNO := hwB13.out.trans (hbNO.mono hwB13.out.size)
        have cb := qN.out 2 B13.heap.size NO (by decide) (hBr.out.trans (hwNO.mono hBr.out.size)) HNO hgNO
        rw [qO.out] at cb
        unfold bndV at cb
        dsimp only [RV.val] at cb
        replace cb := Lib.hid cb
        replace Hv10 := Hv10.out.only (Only.of_below hbNO) (Nat.not_le.2 Hv10.out.lt)
        replace Hl1 := Hl1.out.only (Only.of_below hbNO) (Nat.not_le.2 Hl1.out.lt)
        replace Hh1 := Hh1.out.only (Only.of_below hbNO) (Nat.not_le.2 Hh1.out.lt)
        replace Hl2 := Hl2.out.only (Only.of_below hbNO) (Nat.not_le.2 Hl2.out.lt)
        replace Hh2 := Hh2.out.only (Only.of_below hbNO) (Nat.not_le.2 Hh2.out.lt)
        replace Hl3 := Hl3.out.only (Only.of_below hbNO) (Nat.not_le.2 Hl3.out.lt)
        replace Hh3 := Hh3.out.only (Only.of_below hbNO) (Nat.not_le.2 Hh3.out.lt)
        replace Hv10 := Lib.hid Hv10
        replace Hl1 := Lib.hid Hl1
        replace Hh1 := Lib.hid Hh1
        replace Hl2 := Lib.hid Hl2
        replace Hh2 := Lib.hid Hh2
        replace Hl3 := Lib.hid Hl3
        replace Hh3 := Lib.hid Hh3
        clear hbNO hgNO HNO
        replace hwNO := Lib.hid hwNO
        go_wp2_with fail
        rw [hNO.out]
        refine cb.out.mono ?_
        rintro e w14 ⟨rfl, hb14⟩
        clear cb
        replace Hv10 := Hv10.out.only (Only.of_below hb14) (Nat.not_le.2 Hv10.out.lt)
        replace Hl1 := Hl1.out.only (Only.of_below hb14) (Nat.not_le.2 Hl1.out.lt)
        replace Hh1 := Hh1.out.only (Only.of_below hb14) (Nat.not_le.2 Hh1.out.lt)
        replace Hl2 := Hl2.out.only (Only.of_below hb14) (Nat.not_le.2 Hl2.out.lt)
        replace Hh2 := Hh2.out.only (Only.of_below hb14) (Nat.not_le.2 Hh2.out.lt)
        replace Hl3 := Hl3.out.only (Only.of_below hb14) (Nat.not_le.2 Hl3.out.lt)
        replace Hh3 := Hh3.out.only (Only.of_below hb14) (Nat.not_le.2 Hh3.out.lt)
        have hbw14 := hwNO.out.trans (hb14.mono hwNO.out.size)
        clear hb14 hwNO
        replace Hv10 := Lib.hid Hv10
        replace Hl1 := Lib.hid Hl1
        replace Hh1 := Lib.hid Hh1
        replace Hl2 := Lib.hid Hl2
        replace Hh2 := Lib.hid Hh2
        replace Hl3 := Lib.hid Hl3
        replace Hh3 := Lib.hid Hh3
        replace hbw14 := Lib.hid hbw14
        obtain ⟨B14, hB14⟩ : ∃ B14, B14 = (w14.alloc (.cells #[.int .u8 (l4.ty : Int), .bool l4.nl, .int .i64 l4.n, .string l4.tx, .bool l4.b] 28)).alloc (.cells #[.int .u8 (h4.ty : Int), .bool h4.nl, .int .i64 h4.n, .string h4.tx, .bool h4.b] 28) := ⟨_, rfl⟩
        have hbB14 : Below w14.heap.size w14 B14 := by rw [hB14]; exact ((Below.refl _ _).alloc (Nat.le_refl _) _).alloc (by simp) _
        have Hl4 : Has B14 w14.heap.size l4.cells 28 := by rw [hB14]; exact (Has.new w14 l4.cells _).alloc _
        have Hh4 : Has B14 (w14.heap.size + 1) h4.cells 28 := by rw [hB14]; have h := Has.new (w14.alloc (.cells #[.int .u8 (l4.ty : Int), .bool l4.nl, .int .i64 l4.n, .string l4.tx, .bool l4.b] 28)) h4.cells 28; simp only [World.size_alloc] at h; exact h
        replace Hv10 := Hv10.out.only (Only.of_below hbB14) (Nat.not_le.2 Hv10.out.lt)
        replace Hl1 := Hl1.out.only (Only.of_below hbB14) (Nat.not_le.2 Hl1.out.lt)
        replace Hh1 := Hh1.out.only (Only.of_below hbB14) (Nat.not_le.2 Hh1.out.lt)
        replace Hl2 := Hl2.out.only (Only.of_below hbB14) (Nat.not_le.2 Hl2.out.lt)
        replace Hh2 := Hh2.out.only (Only.of_below hbB14) (Nat.not_le.2 Hh2.out.lt)
        replace Hl3 := Hl3.out.only (Only.of_below hbB14) (Nat.not_le.2 Hl3.out.lt)
        replace Hh3 := Hh3.out.only (Only.of_below hbB14) (Nat.not_le.2 Hh3.out.lt)
        replace Hv10 := Lib.hid Hv10
        replace Hl1 := Lib.hid Hl1
        replace Hh1 := Lib.hid Hh1
        replace Hl2 := Lib.hid Hl2
        replace Hh2 := Lib.hid Hh2
        replace Hl3 := Lib.hid Hl3
        replace Hh3 := Lib.hid Hh3
        replace Hl4 := Lib.hid Hl4
        replace Hh4 := Lib.hid Hh4
        have hwB14 := hbw14.out.trans (hbB14.mono hbw14.out.size)
        clear hbB14 hbw14
        replace hB14 := Lib.hid hB14.symm
        replace hwB14 := Lib.hid hwB14
        go_upto_region 15 with fail
        rw [hB14.out]
        clear hB14
        have hBe := hB.out.trans (hwB14.out.mono hB.out.size)
        have hEe := kE.out B14 (hb58.out.trans (hBe.mono hb58.out.size))
        have Kv : ∀ wx, Below B14.heap.size B14 wx → (Instr.loadAt 28 (.pointer (some ⟨wr.heap.size, 0, none⟩))).run Tryz.prog wx = .ok (.agg #[.int .u8 (v.ty : Int), .bool v.nl, .int .i64 v.n, .string v.tx, .bool v.b]) wx := fun wx hx => val_load (Hv10.out.only (Only.of_below hx) (Nat.not_le.2 Hv10.out.lt))
        have Kl1 : ∀ wx, Below B14.heap.size B14 wx → (Instr.loadAt 28 (.pointer (some ⟨w11.heap.size, 0, none⟩))).run Tryz.prog wx = .ok (.agg #[.int .u8 (l1.ty : Int), .bool l1.nl, .int .i64 l1.n, .string l1.tx, .bool l1.b]) wx := fun wx hx => val_load (Hl1.out.only (Only.of_below hx) (Nat.not_le.2 Hl1.out.lt))
        have Kh1 : ∀ wx, Below B14.heap.size B14 wx → (Instr.loadAt 28 (.pointer (some ⟨(w11.heap.size + 1), 0, none⟩))).run Tryz.prog wx = .ok (.agg #[.int .u8 (h1.ty : Int), .bool h1.nl, .int .i64 h1.n, .string h1.tx, .bool h1.b]) wx := fun wx hx => val_load (Hh1.out.only (Only.of_below hx) (Nat.not_le.2 Hh1.out.lt))
        have Kl2 : ∀ wx, Below B14.heap.size B14 wx → (Instr.loadAt 28 (.pointer (some ⟨w12.heap.size, 0, none⟩))).run Tryz.prog wx = .ok (.agg #[.int .u8 (l2.ty : Int), .bool l2.nl, .int .i64 l2.n, .string l2.tx, .bool l2.b]) wx := fun wx hx => val_load (Hl2.out.only (Only.of_below hx) (Nat.not_le.2 Hl2.out.lt))
        have Kh2 : ∀ wx, Below B14.heap.size B14 wx → (Instr.loadAt 28 (.pointer (some ⟨(w12.heap.size + 1), 0, none⟩))).run Tryz.prog wx = .ok (.agg #[.int .u8 (h2.ty : Int), .bool h2.nl, .int .i64 h2.n, .string h2.tx, .bool h2.b]) wx := fun wx hx => val_load (Hh2.out.only (Only.of_below hx) (Nat.not_le.2 Hh2.out.lt))
        have Kl3 : ∀ wx, Below B14.heap.size B14 wx → (Instr.loadAt 28 (.pointer (some ⟨w13.heap.size, 0, none⟩))).run Tryz.prog wx = .ok (.agg #[.int .u8 (l3.ty : Int), .bool l3.nl, .int .i64 l3.n, .string l3.tx, .bool l3.b]) wx := fun wx hx => val_load (Hl3.out.only (Only.of_below hx) (Nat.not_le.2 Hl3.out.lt))
        have Kh3 : ∀ wx, Below B14.heap.size B14 wx → (Instr.loadAt 28 (.pointer (some ⟨(w13.heap.size + 1), 0, none⟩))).run Tryz.prog wx = .ok (.agg #[.int .u8 (h3.ty : Int), .bool h3.nl, .int .i64 h3.n, .string h3.tx, .bool h3.b]) wx := fun wx hx => val_load (Hh3.out.only (Only.of_below hx) (Nat.not_le.2 Hh3.out.lt))
        have Kl4 : ∀ wx, Below B14.heap.size B14 wx → (Instr.loadAt 28 (.pointer (some ⟨w14.heap.size, 0, none⟩))).run Tryz.prog wx = .ok (.agg #[.int .u8 (l4.ty : Int), .bool l4.nl, .int .i64 l4.n, .string l4.tx, .bool l4.b]) wx := fun wx hx => val_load (Hl4.out.only (Only.of_below hx) (Nat.not_le.2 Hl4.out.lt))
        have Kh4 : ∀ wx, Below B14.heap.size B14 wx → (Instr.loadAt 28 (.pointer (some ⟨(w14.heap.size + 1), 0, none⟩))).run Tryz.prog wx = .ok (.agg #[.int .u8 (h4.ty : Int), .bool h4.nl, .int .i64 h4.n, .string h4.tx, .bool h4.b]) wx := fun wx hx => val_load (Hh4.out.only (Only.of_below hx) (Nat.not_le.2 Hh4.out.lt))
        have cv1 := Hv10.out.cell (o := 1) rfl
        have hfinB : ∀ wx, Below B14.heap.size B14 wx → Below w8.heap.size w8 wx := fun wx hx => hBe.trans (hx.mono hBe.size)
        have wi1 : ∀ wx, Below B14.heap.size B14 wx → Calls Tryz.prog 21 #[.agg #[.int .u8 (v.ty : Int), .bool v.nl, .int .i64 v.n, .string v.tx, .bool v.b], .agg #[.int .u8 (l1.ty : Int), .bool l1.nl, .int .i64 l1.n, .string l1.tx, .bool l1.b], .agg #[.int .u8 (h1.ty : Int), .bool h1.nl, .int .i64 h1.n, .string h1.tx, .bool h1.b]] wx (RPost wx (.bool (withinP v l1 h1))) := fun wx hx => within_any v l1 h1 (Nat.le_trans g2.out (by decide)) bdp.out.1.2.1 bdp.out.2.2.1 wx (hEe.below hx)
        obtain ⟨y1, hy1⟩ : ∃ y, withinP v l1 h1 = y := ⟨_, rfl⟩
        rw [hy1] at wi1
        have wi2 : ∀ wx, Below B14.heap.size B14 wx → Calls Tryz.prog 21 #[.agg #[.int .u8 (v.ty : Int), .bool v.nl, .int .i64 v.n, .string v.tx, .bool v.b], .agg #[.int .u8 (l2.ty : Int), .bool l2.nl, .int .i64 l2.n, .string l2.tx, .bool l2.b], .agg #[.int .u8 (h2.ty : Int), .bool h2.nl, .int .i64 h2.n, .string h2.tx, .bool h2.b]] wx (RPost wx (.bool (withinP v l2 h2))) := fun wx hx => within_any v l2 h2 (Nat.le_trans g2.out (by decide)) bdq.out.1.2.1 bdq.out.2.2.1 wx (hEe.below hx)
        obtain ⟨y2, hy2⟩ : ∃ y, withinP v l2 h2 = y := ⟨_, rfl⟩
        rw [hy2] at wi2
        have wi3 : ∀ wx, Below B14.heap.size B14 wx → Calls Tryz.prog 21 #[.agg #[.int .u8 (v.ty : Int), .bool v.nl, .int .i64 v.n, .string v.tx, .bool v.b], .agg #[.int .u8 (l3.ty : Int), .bool l3.nl, .int .i64 l3.n, .string l3.tx, .bool l3.b], .agg #[.int .u8 (h3.ty : Int), .bool h3.nl, .int .i64 h3.n, .string h3.tx, .bool h3.b]] wx (RPost wx (.bool (withinP v l3 h3))) := fun wx hx => within_any v l3 h3 (Nat.le_trans g2.out (by decide)) bd3.out.1.2.1 bd3.out.2.2.1 wx (hEe.below hx)
        obtain ⟨y3, hy3⟩ : ∃ y, withinP v l3 h3 = y := ⟨_, rfl⟩
        rw [hy3] at wi3
        have wi4 : ∀ wx, Below B14.heap.size B14 wx → Calls Tryz.prog 21 #[.agg #[.int .u8 (v.ty : Int), .bool v.nl, .int .i64 v.n, .string v.tx, .bool v.b], .agg #[.int .u8 (l4.ty : Int), .bool l4.nl, .int .i64 l4.n, .string l4.tx, .bool l4.b], .agg #[.int .u8 (h4.ty : Int), .bool h4.nl, .int .i64 h4.n, .string h4.tx, .bool h4.b]] wx (RPost wx (.bool (withinP v l4 h4))) := fun wx hx => within_any v l4 h4 (Nat.le_trans g2.out (by decide)) bd4.out.1.2.1 bd4.out.2.2.1 wx (hEe.below hx)
        obtain ⟨y4, hy4⟩ : ∃ y, withinP v l4 h4 = y := ⟨_, rfl⟩
        rw [hy4] at wi4
        obtain ⟨BX, hBX⟩ : ∃ BX, BX = B14.alloc (.cells #[.int .u8 (l1.ty : Int), .bool l1.nl, .int .i64 l1.n, .string l1.tx, .bool l1.b, .int .u8 (h1.ty : Int), .bool h1.nl, .int .i64 h1.n, .string h1.tx, .bool h1.b, .int .u8 (l2.ty : Int), .bool l2.nl, .int .i64 l2.n, .string l2.tx, .bool l2.b, .int .u8 (h2.ty : Int), .bool h2.nl, .int .i64 h2.n, .string h2.tx, .bool h2.b, .int .u8 (l3.ty : Int), .bool l3.nl, .int .i64 l3.n, .string l3.tx, .bool l3.b, .int .u8 (h3.ty : Int), .bool h3.nl, .int .i64 h3.n, .string h3.tx, .bool h3.b, .int .u8 (l4.ty : Int), .bool l4.nl, .int .i64 l4.n, .string l4.tx, .bool l4.b, .int .u8 (h4.ty : Int), .bool h4.nl, .int .i64 h4.n, .string h4.tx, .bool h4.b] 28) := ⟨_, rfl⟩
        have HX : Has BX B14.heap.size (vCells [l1, h1, l2, h2, l3, h3, l4, h4]) 28 := by rw [hBX]; exact Has.new B14 (vCells [l1, h1, l2, h2, l3, h3, l4, h4]) _
        have hbX : Below B14.heap.size B14 BX := by rw [hBX]; exact (Below.refl _ _).alloc (Nat.le_refl _) _
        replace hBX := Lib.hid hBX.symm
        have us := lusable_any [l1, h1, l2, h2, l3, h3, l4, h4] (fun x hx => by
          simp only [List.mem_cons, List.not_mem_nil, or_false] at hx
          rcases hx with rfl | rfl | rfl | rfl | rfl | rfl | rfl | rfl
          · exact bdp.out.1.2.1
          · exact bdp.out.2.2.1
          · exact bdq.out.1.2.1
          · exact bdq.out.2.2.1
          · exact bd3.out.1.2.1
          · exact bd3.out.2.2.1
          · exact bd4.out.1.2.1
          · exact bd4.out.2.2.1
          ) (by simp) (some ⟨B14.heap.size, 0, none⟩) 8 BX (hEe.below hbX) (Rd.of_has HX 8 8)
        obtain ⟨ok, hok⟩ : ∃ y, [l1, h1, l2, h2, l3, h3, l4, h4].all okB = y := ⟨_, rfl⟩
        rw [hok] at us
        replace hJ := hJ.out
        simp only [hy1, hy2, hy3, hy4] at hJ
        clear Hv10 Hl1 Hh1 Hl2 Hh2 Hl3 Hh3 Hl4 Hh4 HX hy1 hy2 hy3 hy4 bdp bdq bd3 bd4 g2 qS qU qN qA qO
        obtain ⟨Vv, hVv⟩ : ∃ x, x = Value.agg #[.int .u8 (v.ty : Int), .bool v.nl, .int .i64 v.n, .string v.tx, .bool v.b] := ⟨_, rfl⟩
        obtain ⟨Vl1, hVl1⟩ : ∃ x, x = Value.agg #[.int .u8 (l1.ty : Int), .bool l1.nl, .int .i64 l1.n, .string l1.tx, .bool l1.b] := ⟨_, rfl⟩
        obtain ⟨Vh1, hVh1⟩ : ∃ x, x = Value.agg #[.int .u8 (h1.ty : Int), .bool h1.nl, .int .i64 h1.n, .string h1.tx, .bool h1.b] := ⟨_, rfl⟩
        obtain ⟨Vl2, hVl2⟩ : ∃ x, x = Value.agg #[.int .u8 (l2.ty : Int), .bool l2.nl, .int .i64 l2.n, .string l2.tx, .bool l2.b] := ⟨_, rfl⟩
        obtain ⟨Vh2, hVh2⟩ : ∃ x, x = Value.agg #[.int .u8 (h2.ty : Int), .bool h2.nl, .int .i64 h2.n, .string h2.tx, .bool h2.b] := ⟨_, rfl⟩
        obtain ⟨Vl3, hVl3⟩ : ∃ x, x = Value.agg #[.int .u8 (l3.ty : Int), .bool l3.nl, .int .i64 l3.n, .string l3.tx, .bool l3.b] := ⟨_, rfl⟩
        obtain ⟨Vh3, hVh3⟩ : ∃ x, x = Value.agg #[.int .u8 (h3.ty : Int), .bool h3.nl, .int .i64 h3.n, .string h3.tx, .bool h3.b] := ⟨_, rfl⟩
        obtain ⟨Vl4, hVl4⟩ : ∃ x, x = Value.agg #[.int .u8 (l4.ty : Int), .bool l4.nl, .int .i64 l4.n, .string l4.tx, .bool l4.b] := ⟨_, rfl⟩
        obtain ⟨Vh4, hVh4⟩ : ∃ x, x = Value.agg #[.int .u8 (h4.ty : Int), .bool h4.nl, .int .i64 h4.n, .string h4.tx, .bool h4.b] := ⟨_, rfl⟩
        simp only [← hVv, ← hVl1, ← hVh1] at wi1
        simp only [← hVv, ← hVl2, ← hVh2] at wi2
        simp only [← hVv, ← hVl3, ← hVh3] at wi3
        simp only [← hVv, ← hVl4, ← hVh4] at wi4
        simp only [← hVv] at Kv
        simp only [← hVl1] at Kl1
        simp only [← hVh1] at Kh1
        simp only [← hVl2] at Kl2
        simp only [← hVh2] at Kh2
        simp only [← hVl3] at Kl3
        simp only [← hVh3] at Kh3
        simp only [← hVl4] at Kl4
        simp only [← hVh4] at Kh4
        simp only [← hVv, ← hVl1, ← hVh1, ← hVl2, ← hVh2, ← hVl3, ← hVh3, ← hVl4, ← hVh4]
        generalize Value.tuple #[Vl1, Vh1, .bool x1] = Tp1
        generalize Value.tuple #[Vl2, Vh2, .bool x2] = Tp2
        generalize Value.tuple #[Vl3, Vh3, .bool x3] = Tp3
        generalize Value.tuple #[Vl4, Vh4, .bool false] = Tp4
        replace hVv := Lib.hid hVv
        replace hVl1 := Lib.hid hVl1
        replace hVh1 := Lib.hid hVh1
        replace hVl2 := Lib.hid hVl2
        replace hVh2 := Lib.hid hVh2
        replace hVl3 := Lib.hid hVl3
        replace hVh3 := Lib.hid hVh3
        replace hVl4 := Lib.hid hVl4
        replace hVh4 := Lib.hid hVh4
        replace us := Lib.hid us
        replace hok := Lib.hid hok
        replace hJ := Lib.hid hJ
        replace hbX := Lib.hid hbX
        replace hfinB := Lib.hid hfinB
        replace hBe := Lib.hid hBe
        replace hEe := Lib.hid hEe
        replace wi1 := Lib.hid wi1
        replace wi2 := Lib.hid wi2
        replace wi3 := Lib.hid wi3
        replace wi4 := Lib.hid wi4
        replace Kv := Lib.hid Kv
        replace Kl1 := Lib.hid Kl1
        replace Kh1 := Lib.hid Kh1
        replace Kl2 := Lib.hid Kl2
        replace Kh2 := Lib.hid Kh2
        replace Kl3 := Lib.hid Kl3
        replace Kh3 := Lib.hid Kh3
        replace Kl4 := Lib.hid Kl4
        replace Kh4 := Lib.hid Kh4
        obtain ⟨vn, hvn⟩ : ∃ y, v.nl = y := ⟨_, rfl⟩
        cases vn with
        | true =>
          rw [hvn] at cv1
          replace hvn := Lib.hid hvn
          go_wp2_with fail
          rw [kw.out]
          go_roundw
          case rel => exact ⟨k + 1, by omega, rfl, hfinB.out _ (Below.refl _ _)⟩
          case measure => simp [RowKit.intOf]; omega
        | false =>
          replace hJ := Lib.hid (hJ.out hvn)
          rw [hvn] at cv1
          have hvn2 := Lib.hid hvn
          clear hvn
          iterate 10 go_step
          refine wpList_loadE 100 (.tmp 13) 28 Vl1 ?_ ?_ (by go_simp; exact rfl) ?_
          · kernel_rfl
          · exact Kl1.out _ (Below.refl _ _)
          refine wpList_loadE 101 (.tmp 14) 28 Vh1 ?_ ?_ (by go_simp; exact rfl) ?_
          · kernel_rfl
          · exact Kh1.out _ (Below.refl _ _)
          refine wpList_loadE 102 (.tmp 16) 28 Vl2 ?_ ?_ (by go_simp; exact rfl) ?_
          · kernel_rfl
          · exact Kl2.out _ (Below.refl _ _)
          refine wpList_loadE 103 (.tmp 17) 28 Vh2 ?_ ?_ (by go_simp; exact rfl) ?_
          · kernel_rfl
          · exact Kh2.out _ (Below.refl _ _)
          refine wpList_loadE 104 (.tmp 19) 28 Vl3 ?_ ?_ (by go_simp; exact rfl) ?_
          · kernel_rfl
          · exact Kl3.out _ (Below.refl _ _)
          refine wpList_loadE 105 (.tmp 20) 28 Vh3 ?_ ?_ (by go_simp; exact rfl) ?_
          · kernel_rfl
          · exact Kh3.out _ (Below.refl _ _)
          refine wpList_loadE 106 (.tmp 22) 28 Vl4 ?_ ?_ (by go_simp; exact rfl) ?_
          · kernel_rfl
          · exact Kl4.out _ (Below.refl _ _)
          refine wpList_loadE 107 (.tmp 23) 28 Vh4 ?_ ?_ (by go_simp; exact rfl) ?_
          · kernel_rfl
          · exact Kh4.out _ (Below.refl _ _)
          refine wpList_valE 108 (.slice (some ⟨B14.heap.size, 0, none⟩) 8 8) BX ?_ ?_ (by go_simp; exact rfl) ?_
          · kernel_rfl
          · rw [← hBX.out]
            refine build_8 l1 h1 l2 h2 l3 h3 l4 h4 ?_ ?_ ?_ ?_ ?_ ?_ ?_ ?_ ?_ _
            · rfl
            · exact hVl1.out
            · exact hVh1.out
            · exact hVl2.out
            · exact hVh2.out
            · exact hVl3.out
            · exact hVh3.out
            · exact hVl4.out
            · exact hVh4.out
          go_wp2_with fail
          refine us.out.mono ?_
          rintro e w15 ⟨rfl, hb15⟩
          have hbe := hbX.out.trans (hb15.mono hbX.out.size)
          clear hb15 us hBX hbX cv1
          replace hbe := Lib.hid hbe
          cases ok with
          | false =>
            go_wp2_with fail
            rw [kw.out]
            go_roundw
            case rel => exact ⟨k + 1, by omega, rfl, hfinB.out _ hbe.out⟩
            case measure => simp [RowKit.intOf]; omega
          | true =>
            have hoks : okB l1 = true ∧ okB h1 = true ∧ okB l2 = true ∧ okB h2 = true := by
              have := hok.out
              simp only [List.all_cons, Bool.and_eq_true] at this
              exact ⟨this.1, this.2.1, this.2.2.1, this.2.2.2.1⟩
            have hJ2 := hJ.out hoks.1 hoks.2.1 hoks.2.2.1 hoks.2.2.2
            clear hJ hok hoks
            replace hJ2 := Lib.hid hJ2
            go_upto_region 16 with fail
            refine wp_region_quietC (C := fun wx => Below B14.heap.size B14 wx) (by kernel_rfl) (by kernel_rfl) (below_drew hbe.out) ?_
            go_big_quiet_want
            refine quiet_loadJ (.tmp 11) 28 rfl Vv (fun wx hx => Kv.out wx hx) (by go_simp; exact rfl) ?_
            go_big_quiet_on
            go_big_quiet_want
            refine quiet_loadJ (.tmp 13) 28 rfl Vl1 (fun wx hx => Kl1.out wx hx) (by go_simp; exact rfl) ?_
            go_big_quiet_on
            go_big_quiet_want
            refine quiet_loadJ (.tmp 14) 28 rfl Vh1 (fun wx hx => Kh1.out wx hx) (by go_simp; exact rfl) ?_
            go_big_quiet_on
            go_big_quiet_want; go_big_quiet_op
            refine ⟨.bool y1, fun wx hx => (wi1.out wx hx).mono fun e w2 ⟨he, hb⟩ => ⟨he, hx.trans (hb.mono hx.size)⟩, ?_⟩
            go_big_quiet_on
            go_big_quiet_want
            refine quiet_loadJ (.tmp 11) 28 rfl Vv (fun wx hx => Kv.out wx hx) (by go_simp; exact rfl) ?_
            go_big_quiet_on
            go_big_quiet_want
            refine quiet_loadJ (.tmp 16) 28 rfl Vl2 (fun wx hx => Kl2.out wx hx) (by go_simp; exact rfl) ?_
            go_big_quiet_on
            go_big_quiet_want
            refine quiet_loadJ (.tmp 17) 28 rfl Vh2 (fun wx hx => Kh2.out wx hx) (by go_simp; exact rfl) ?_
            go_big_quiet_on
            go_big_quiet_want; go_big_quiet_op
            refine ⟨.bool y2, fun wx hx => (wi2.out wx hx).mono fun e w2 ⟨he, hb⟩ => ⟨he, hx.trans (hb.mono hx.size)⟩, ?_⟩
            go_big_quiet_on
            iterate 2 (go_big_quiet_want; go_big_quiet_op; first | go_big_quiet_on | (refine ⟨_, fun _ _ => rfl, ?_⟩; go_big_quiet_on))
            refine wpQuiet_nil ?_
            intro w16 h16
            clear hbe
            replace h16 := Lib.hid h16
            have wi3b := Lib.hid (wi3.out w16 h16.out)
            go_upto_region 17 with fail
            go_step
            refine wpList_loadE 120 (.tmp 11) 28 Vv ?_ ?_ (by go_simp; exact rfl) ?_
            · kernel_rfl
            · exact Kv.out _ h16.out
            refine wpList_loadE 121 (.tmp 19) 28 Vl3 ?_ ?_ (by go_simp; exact rfl) ?_
            · kernel_rfl
            · exact Kl3.out _ h16.out
            refine wpList_loadE 122 (.tmp 20) 28 Vh3 ?_ ?_ (by go_simp; exact rfl) ?_
            · kernel_rfl
            · exact Kh3.out _ h16.out
            go_wp2_with fail
            refine wi3b.out.mono ?_
            rintro e w17 ⟨rfl, hb17⟩
            have h17 := h16.out.trans (hb17.mono h16.out.size)
            have wi4b := Lib.hid (wi4.out w17 h17)
            clear hb17 wi3b h16
            replace h17 := Lib.hid h17
            obtain ⟨e3, e4⟩ := hJ2.out
            clear hJ2
            cases y1 with
            | false =>
              cases y2 with
              | false =>
                have z3 : y3 = false := by simpa using e3
                subst z3
                clear e3 e4
                go_wp2_with fail
                rw [kw.out]
                go_roundw
                case rel => exact ⟨k + 1, by omega, rfl, hfinB.out _ h17.out⟩
                case measure => simp [RowKit.intOf]; omega
              | true =>
                have z3 : y3 = false := by simpa using e3
                have z4 : y4 = true := by simpa using e4
                subst z3 z4
                clear e3 e4
                go_simp
                iterate 28 go_step
                refine wpList_loadE 135 (.tmp 11) 28 Vv ?_ ?_ (by go_simp; exact rfl) ?_
                · kernel_rfl
                · exact Kv.out _ h17.out
                refine wpList_loadE 136 (.tmp 22) 28 Vl4 ?_ ?_ (by go_simp; exact rfl) ?_
                · kernel_rfl
                · exact Kl4.out _ h17.out
                refine wpList_loadE 137 (.tmp 23) 28 Vh4 ?_ ?_ (by go_simp; exact rfl) ?_
                · kernel_rfl
                · exact Kh4.out _ h17.out
                go_wp2_with fail
                refine wi4b.out.mono ?_
                rintro e w18 ⟨rfl, hb18⟩
                have h18 := Lib.hid (h17.out.trans (hb18.mono h17.out.size))
                clear hb18 wi4b
                go_wp2_with fail
                rw [kw.out]
                go_roundw
                case rel => exact ⟨k + 1, by omega, rfl, hfinB.out _ h18.out⟩
                case measure => simp [RowKit.intOf]; omega
            | true =>
              cases y2 with
              | false =>
                have z3 : y3 = false := by simpa using e3
                have z4 : y4 = true := by simpa using e4
                subst z3 z4
                clear e3 e4
                go_simp
                iterate 28 go_step
                refine wpList_loadE 135 (.tmp 11) 28 Vv ?_ ?_ (by go_simp; exact rfl) ?_
                · kernel_rfl
                · exact Kv.out _ h17.out
                refine wpList_loadE 136 (.tmp 22) 28 Vl4 ?_ ?_ (by go_simp; exact rfl) ?_
                · kernel_rfl
                · exact Kl4.out _ h17.out
                refine wpList_loadE 137 (.tmp 23) 28 Vh4 ?_ ?_ (by go_simp; exact rfl) ?_
                · kernel_rfl
                · exact Kh4.out _ h17.out
                go_wp2_with fail
                refine wi4b.out.mono ?_
                rintro e w18 ⟨rfl, hb18⟩
                have h18 := Lib.hid (h17.out.trans (hb18.mono h17.out.size))
                clear hb18 wi4b
                go_wp2_with fail
                rw [kw.out]
                go_roundw
                case rel => exact ⟨k + 1, by omega, rfl, hfinB.out _ h18.out⟩
                case measure => simp [RowKit.intOf]; omega
              | true =>
                have z3 : y3 = true := by simpa using e3
                have z4 : y4 = true := by simpa using e4
                subst z3 z4
                clear e3 e4
                go_simp
                iterate 28 go_step
                refine wpList_loadE 135 (.tmp 11) 28 Vv ?_ ?_ (by go_simp; exact rfl) ?_
                · kernel_rfl
                · exact Kv.out _ h17.out
                refine wpList_loadE 136 (.tmp 22) 28 Vl4 ?_ ?_ (by go_simp; exact rfl) ?_
                · kernel_rfl
                · exact Kl4.out _ h17.out
                refine wpList_loadE 137 (.tmp 23) 28 Vh4 ?_ ?_ (by go_simp; exact rfl) ?_
                · kernel_rfl
                · exact Kh4.out _ h17.out
                go_wp2_with fail
                refine wi4b.out.mono ?_
                rintro e w18 ⟨rfl, hb18⟩
                have h18 := Lib.hid (h17.out.trans (hb18.mono h17.out.size))
                clear hb18 wi4b
                go_wp2_with fail
                rw [kw.out]
                go_roundw
                case rel => exact ⟨k + 1, by omega, rfl, hfinB.out _ h18.out⟩
                case measure => simp [RowKit.intOf]; omega
end Go.Proofs.YtgnoikfmhncbmaaGreatDoor
