/- The program's device: Copy. -/
import Derived.Test.YtikjpklbbjmioaaC3
import Derived.BigRegion
import Derived.Deep.DeepCutAuto
namespace Go.Proofs.Ytikjpklbbjmioaa
open Go.RowKit Go.Maps
variable {w w' : World} {F F' : Own} {o o2 T : Nat} {L L2 : Lay} {R Q : Dv}

theorem index_at0 (x0 x1 x2 x3 x4 x5 x6 x7 : Value) (w : World) : (Instr.index 92 (.agg #[x0, x1, x2, x3, x4, x5, x6, x7]) (.int .i64 0)).run Try.prog w = .ok x0 w := by kernel_rfl
theorem index_at1 (x0 x1 x2 x3 x4 x5 x6 x7 : Value) (w : World) : (Instr.index 92 (.agg #[x0, x1, x2, x3, x4, x5, x6, x7]) (.int .i64 1)).run Try.prog w = .ok x1 w := by kernel_rfl
theorem index_at2 (x0 x1 x2 x3 x4 x5 x6 x7 : Value) (w : World) : (Instr.index 92 (.agg #[x0, x1, x2, x3, x4, x5, x6, x7]) (.int .i64 2)).run Try.prog w = .ok x2 w := by kernel_rfl
theorem index_at3 (x0 x1 x2 x3 x4 x5 x6 x7 : Value) (w : World) : (Instr.index 92 (.agg #[x0, x1, x2, x3, x4, x5, x6, x7]) (.int .i64 3)).run Try.prog w = .ok x3 w := by kernel_rfl
theorem index_at4 (x0 x1 x2 x3 x4 x5 x6 x7 : Value) (w : World) : (Instr.index 92 (.agg #[x0, x1, x2, x3, x4, x5, x6, x7]) (.int .i64 4)).run Try.prog w = .ok x4 w := by kernel_rfl
theorem index_at5 (x0 x1 x2 x3 x4 x5 x6 x7 : Value) (w : World) : (Instr.index 92 (.agg #[x0, x1, x2, x3, x4, x5, x6, x7]) (.int .i64 5)).run Try.prog w = .ok x5 w := by kernel_rfl
theorem index_at6 (x0 x1 x2 x3 x4 x5 x6 x7 : Value) (w : World) : (Instr.index 92 (.agg #[x0, x1, x2, x3, x4, x5, x6, x7]) (.int .i64 6)).run Try.prog w = .ok x6 w := by kernel_rfl
theorem index_at7 (x0 x1 x2 x3 x4 x5 x6 x7 : Value) (w : World) : (Instr.index 92 (.agg #[x0, x1, x2, x3, x4, x5, x6, x7]) (.int .i64 7)).run Try.prog w = .ok x7 w := by kernel_rfl
def aggT (tb : Nat → Nat) : Value := .agg #[.pointer (some ⟨tb 0, 0, none⟩), .pointer (some ⟨tb 1, 0, none⟩), .pointer (some ⟨tb 2, 0, none⟩), .pointer (some ⟨tb 3, 0, none⟩), .pointer (some ⟨tb 4, 0, none⟩), .pointer (some ⟨tb 5, 0, none⟩), .pointer (some ⟨tb 6, 0, none⟩), .pointer (some ⟨tb 7, 0, none⟩)]
theorem index_aggT (tb : Nat → Nat) (j : Nat) (hj : j < 8) (w : World) : (Instr.index 92 (aggT tb) (.int .i64 (j : Int))).run Try.prog w = .ok (.pointer (some ⟨tb j, 0, none⟩)) w := by
  match j, hj with
  | 0, _ => exact index_at0 _ _ _ _ _ _ _ _ w
  | 1, _ => exact index_at1 _ _ _ _ _ _ _ _ w
  | 2, _ => exact index_at2 _ _ _ _ _ _ _ _ w
  | 3, _ => exact index_at3 _ _ _ _ _ _ _ _ w
  | 4, _ => exact index_at4 _ _ _ _ _ _ _ _ w
  | 5, _ => exact index_at5 _ _ _ _ _ _ _ _ w
  | 6, _ => exact index_at6 _ _ _ _ _ _ _ _ w
  | 7, _ => exact index_at7 _ _ _ _ _ _ _ _ w
/-- What 'of' leaves, and the copy of the current words behind it. -/
theorem Cp1.start {w1 w2 w3 : World} {F1 F2 : Own} {pbk : Nat} (h : DevSt w F o L T R) (hn : o ≠ o2) (hB1 : Below w.heap.size w w1) (hpb : w.heap.size ≤ pbk) (hF1 : F1 = F.put pbk (o2, 1, 0)) (hd : DevSt w2 F2 o2 L2 0 (fromP R.lines.length R.perW)) (hx : Ext w1 F1 F2) (hB2 : Below w1.heap.size w1 w2)
    (hl : w3.ownsRow 0 22 1 (.slice (some ⟨L2.cb, 0, none⟩) (R.lines.length * 8) L2.cc) (R.lines.length * 8) (u64s R.curW)) (ho : Only (fun k => k = L2.cb) w2 w3) (hcb : w.heap.size ≤ L2.cb) :
    Cp1 w F o L T R o2 L2 (fromP R.lines.length R.perW) 0 w3 := by
  have hB : Below w.heap.size w w2 := hB1.trans (hB2.mono hB1.size)
  have hxx : Ext w F F2 := fun k hk => by
    rw [hx k (by have := hB1.size; omega), hF1, F.put_ne _ (by omega)]
  have hpl : R.perW.length = R.lines.length * 8 := by rw [h.ok.perLen]; omega
  have hm := hd.m
  rw [fromP_per _ _ hpl, fromP_cur _ _ hpl] at hm
  have hlen := fromP_len R.lines.length R.perW
  refine ⟨⟨F2, (h.belowX hB hxx).kept ho (Ext.refl _ _) (fun k r s e => ?_), hm.words (by rw [hlen]; exact hl) ho, hxx⟩, hB.trans (ho.below hB.size (fun k _ s => by rw [s]; exact hcb))⟩
  rw [s, hm.fc] at e; cases e; exact hn rfl
/-- The new device's blocks are new. -/
structure NewB (w : World) (L2 : Lay) : Prop where
  g : w.heap.size ≤ L2.g
  cb : w.heap.size ≤ L2.cb
  lb : w.heap.size ≤ L2.lb
  tb : ∀ t, t < 8 → w.heap.size ≤ L2.tb t
theorem newB {w1 w2 : World} {F1 F2 : Own} {pbk : Nat} {Q : Dv} (hF : ∀ k r, F k ≠ some (o2, r)) (hB1 : Below w.heap.size w w1) (hpb : w.heap.size ≤ pbk) (hF1 : F1 = F.put pbk (o2, 1, 0)) (hd : DevSt w2 F2 o2 L2 0 Q) (hx : Ext w1 F1 F2) : NewB w L2 := by
  have key : ∀ b r, F2 b = some (o2, r) → w.heap.size ≤ b := fun b r hb => by
    rcases Nat.lt_or_ge b w.heap.size with h | h
    · rw [hx b (by have := hB1.size; omega), hF1, F.put_ne _ (by omega)] at hb; exact absurd hb (hF b r)
    · exact h
  exact ⟨key _ _ hd.fg, key _ _ hd.fc, key _ _ hd.fl, fun t ht => key _ _ (hd.thr t ht).2⟩
set_option maxHeartbeats 8000000 in
set_option maxRecDepth 100000 in
theorem copy_any (h : DevSt w F o L T R) (hn : o ≠ o2) (hF : ∀ k r, F k ≠ some (o2, r)) : Calls Try.prog 40 #[.pointer (some ⟨L.g, 0, none⟩)] w (CopyPost w F o L o2 T R) := by
  generalize hpost : CopyPost w F o L o2 T R = post
  have n1 := h.ok.n1
  have n2 := h.ok.n2
  have hpl : R.perW.length = R.lines.length * 8 := by rw [h.ok.perLen]; omega
  have hcu : R.curW.length = R.lines.length * 8 := by rw [h.ok.curLen]; omega
  have d0 := h.dev.cell (o := 0) rfl
  have hcl : Calls Try.prog 75 #[.slice (some ⟨L.pb, 0, none⟩) (R.lines.length * 8) L.pc] w (ClonePost w 22 1 (R.lines.length * 8) (u64s R.perW)) := by
    have := cloneU_any w L.pb 0 L.pc R.perW (by rw [hpl]; exact Rd.of_own h.per) (by omega)
    rw [hpl] at this; exact this
  have hof : ∀ w1 pbk pc, Below w.heap.size w w1 → w1.ownsRow 0 22 1 (.slice (some ⟨pbk, 0, none⟩) (R.lines.length * 8) pc) (R.lines.length * 8) (u64s R.perW) → Calls Try.prog 44 #[.slice (some ⟨pbk, 0, none⟩) (R.lines.length * 8) pc] w1 (OfPost w1 (F.put pbk (o2, 1, 0)) o2 pbk R.lines.length R.perW) := fun w1 pbk pc hB hown =>
    of_any R.lines.length pbk pc R.perW hpl n1 n2 h.ok.per_lt hown (Own.put_at _ _ _)
  replace hpost := Lib.hid hpost
  replace hcl := Lib.hid hcl
  replace hof := Lib.hid hof
  replace h := Lib.hid h
  replace hF := Lib.hid hF
  replace hpl := Lib.hid hpl
  replace hcu := Lib.hid hcu
  go_enter Try.func40, Try.ntmps40
  go_wp2_with fail
  refine hcl.out.mono ?_
  rintro e w1 ⟨pa, pc, rfl, own1, B1, fr1⟩
  obtain ⟨pbk, rfl⟩ := own_some own1 (by omega)
  have hpb := fr1 pbk rfl
  have hofx := Lib.hid (hof.out w1 pbk pc B1 own1)
  clear own1 fr1 hof hcl d0
  go_wp2_with fail
  refine hofx.out.mono ?_
  rintro e w2 ⟨L2, F2, rfl, hd, hpbe, hx, B2⟩
  have hB := newB hF.out B1 hpb rfl hd hx
  have hl2 := fromP_len R.lines.length R.perW
  have D1 := hd.dev.cell (o := 1) rfl
  rw [hl2] at D1
  have hw2 := B1.trans (B2.mono B1.size)
  have hh2 := h.out.belowX (F' := F2) hw2 (fun k hk => by rw [hx k (by have := B1.size; omega), F.put_ne _ (by omega)])
  have d1 := hh2.dev.cell (o := 1) rfl
  have hsrc := Rd.of_own hh2.cur
  have hdst := hd.cur
  rw [hl2] at hdst
  have hst := fun w3 hl ho => Cp1.start (w3 := w3) h.out hn B1 hpb rfl hd hx B2 hl ho hB.cb
  have hcp : ∀ j v, (u64s R.curW)[j]? = some v → w2.cell? ((⟨L.cb, 0, none⟩ : Addr).add j) = some v := by
    intro j v hj
    obtain ⟨bl, ol, cl, ea, fa⟩ := hsrc.cells (by omega)
    simp only [Value.slice.injEq, true_and, Option.some.injEq, Addr.mk.injEq, and_true] at ea
    obtain ⟨⟨rfl, rfl⟩, _⟩ := ea
    have := fa j v hj
    rw [Addr.add_lit]; exact this
  have hul := u64s_len R.curW
  rw [hcu.out] at hul
  have h1c := u64s_one R.curW
  replace hst := Lib.hid hst
  replace hcp := Lib.hid hcp
  replace hdst := Lib.hid hdst
  replace hul := Lib.hid hul
  replace h1c := Lib.hid h1c
  replace hB := Lib.hid hB
  clear hd hx hh2 hw2 hsrc hofx B1 B2 hl2
  go_wp2_with fail
  go_cut [24] (fun _ wx => Cp1 w F o L T R o2 L2 (fromP R.lines.length R.perW) 0 wx)
  case first =>
    go_region_law (refine step_copyR rfl (.tmp 19) (.tmp 23) 57 57 rfl 22 Try.underlying57 (by kernel_rfl) L2.cb (R.lines.length * 8) L2.cc L.cc ⟨L.cb, 0, none⟩ (by simp [Act.eval]) (by simp [Act.eval]) _ (u64s R.curW) hdst.out hul.out hcp.out h1c.out ?_; intro w3 hl3 ho3)
    all_goals
      have st := Lib.hid (hst.out w3 hl3 ((Only.refl (fun k => k = L2.cb) w2).drew.trans ho3))
      clear hl3 ho3
      go_wp2_with fail
      go_meet
      exact st.out
  case rest =>
    have S0 := hcut
    clear hcut hst hdst hcp hul h1c
    have d2 : wc.cell? ⟨L.g, 2, none⟩ = some (.slice (some ⟨L.lb, 0, none⟩) R.lines.length R.lines.length) := by
      obtain ⟨Fr0, x1, _, _⟩ := S0.ex
      exact x1.dev.cell (o := 2) rfl
    have hql := fromP_len R.lines.length R.perW
    have hqn : (fromP R.lines.length R.perW).notes.length = 8 := by simp [fromP]
    have hqe : (fromP R.lines.length R.perW).errs.length = 8 := by simp [fromP]
    have hhl := fun i (hi : i < R.lines.length) => show (R.line i).hist.length ≤ 100000 by have := (h.out.ok.ln i hi).hl; have := h.out.ok.t; omega
    replace hql := Lib.hid hql
    replace hqn := Lib.hid hqn
    replace hqe := Lib.hid hqe
    replace hhl := Lib.hid hhl
    go_wp2_with fail
    go_loopw [30] (fun v wr => ∃ i : Nat, i ≤ R.lines.length ∧ v = .int .i64 i ∧ Cp1 w F o L T R o2 L2 (fromP R.lines.length R.perW) i wr) (fun v _ => R.lines.length - (intOf v).toNat)
    case atStart => exact ⟨0, Nat.zero_le _, rfl, S0⟩
    case round =>
      clear S0 d2
      obtain ⟨i, hi, rfl, S0⟩ := hrel
      by_cases hlt : i < R.lines.length
      · have hiI : (i : Int) < (R.lines.length : Int) := by omega
        have hi0 : (0 : Int) ≤ (i : Int) := by omega
        obtain ⟨va, vc, x0, x1, xs⟩ : ∃ va vc, wr.cell? ⟨L.lb, i * 2, none⟩ = some (.int .u64 ((R.line i).done : Int)) ∧ wr.cell? ⟨L.lb, i * 2 + 1, none⟩ = some (.slice va (R.line i).hist.length vc) ∧ SubV wr 144 2 (.slice va (R.line i).hist.length vc) (R.line i).hist.length (wcells (R.line i).hist) := by
          obtain ⟨Fr, h1, _⟩ := S0.ex
          obtain ⟨cs, hv, hL, _, hlin⟩ := h1.lin
          obtain ⟨y0, y1, hsub, _⟩ := hlin i hlt
          obtain ⟨va, vc, hva⟩ := hsub.slice
          rw [hva] at y1 hsub
          exact ⟨va, vc, hL.cell y0, hL.cell y1, hsub⟩
        have xs' := xs.alloc (.cells #[.int .u64 ((R.line i).done : Int), .slice va (R.line i).hist.length vc] 137)
        have hml := hhl.out i hlt
        have hcl : ∀ wx, Below (wr.alloc (.cells #[.int .u64 ((R.line i).done : Int), .slice va (R.line i).hist.length vc] 137)).heap.size (wr.alloc (.cells #[.int .u64 ((R.line i).done : Int), .slice va (R.line i).hist.length vc] 137)) wx → Calls Try.prog 82 #[.slice va (R.line i).hist.length vc] wx (ClonePost wx 144 2 (R.line i).hist.length (wcells (R.line i).hist)) :=
          fun wx hB => cloneW_any wx _ (R.line i).hist (xs'.only (Only.of_below hB) (fun k hk => Nat.not_le.2 (xs'.lt hk))) (by omega)
        have hA : Below wr.heap.size wr (wr.alloc (.cells #[.int .u64 ((R.line i).done : Int), .slice va (R.line i).hist.length vc] 137)) := (Below.refl _ _).alloc (Nat.le_refl _) _
        have hcells : ∀ wx, Below wr.heap.size wr wx → wx.cell? ⟨L2.g, 2, none⟩ = some (.slice (some ⟨L2.lb, 0, none⟩) R.lines.length R.lines.length) ∧ (∃ u, wx.cell? ⟨L2.lb, i * 2, none⟩ = some u) ∧ (∃ u, wx.cell? ⟨L2.lb, i * 2 + 1, none⟩ = some u) ∧ wx.frozen? ⟨L2.lb, i * 2, none⟩ = false ∧ wx.frozen? ⟨L2.lb, i * 2 + 1, none⟩ = false := fun wx hB => by
          obtain ⟨Fr, _, h2, _⟩ := (S0.below hB).ex
          have y := h2.dev.cell (o := 2) rfl
          have hml := midL_len R (fromP R.lines.length R.perW) i
          rw [hml, hql.out] at y
          obtain ⟨cs, hv, hL, _, hlin⟩ := h2.lin
          obtain ⟨y0, y1, _⟩ := hlin i (by rw [hml, hql.out]; exact hlt)
          exact ⟨y, ⟨_, hL.cell y0⟩, ⟨_, hL.cell y1⟩, hL.free _, hL.free _⟩
        have hnx : ∀ w1 va2 vc2, Below wr.heap.size wr w1 → w1.ownsRow 0 144 2 (.slice va2 (R.line i).hist.length vc2) (R.line i).hist.length (wcells (R.line i).hist) → (∀ k, Value.ownBlock (.slice va2 (R.line i).hist.length vc2) = some k → wr.heap.size ≤ k) → _ := fun w1 va2 vc2 hb hown hfr => S0.step hn hB.out.lb hql.out hlt hb hown hfr
        obtain ⟨a0, _, _, _, _⟩ := hcells _ hA
        have hbx := Has.new wr [.int .u64 ((R.line i).done : Int), .slice va (R.line i).hist.length vc] 137
        have b0 := hbx.cell (o := 0) rfl
        have b1 := hbx.cell (o := 1) rfl
        generalize wcells (R.line i).hist = wc0 at *
        generalize (R.line i).hist.length = m at *
        generalize (R.line i).done = dn at *
        have hbk : ∀ wx, Below (wr.alloc (.cells #[.int .u64 (dn : Int), .slice va m vc] 137)).heap.size (wr.alloc (.cells #[.int .u64 (dn : Int), .slice va m vc] 137)) wx → wx.cell? ⟨wr.heap.size, 0, none⟩ = some (.int .u64 (dn : Int)) ∧ wx.cell? ⟨wr.heap.size, 1, none⟩ = some (.slice va m vc) := fun wx hB => by
          have := hbx.only (Only.of_below hB) (by simp)
          exact ⟨this.cell rfl, this.cell rfl⟩
        replace hbk := Lib.hid hbk
        replace hcl := Lib.hid hcl
        replace hnx := Lib.hid hnx
        replace hcells := Lib.hid hcells
        replace hA := Lib.hid hA
        clear S0 xs xs' hbx
        go_wp2_with fail
        go_region_with ((go_at_call 82; refine (hcl.out _ (by first | exact Below.refl _ _ | exact Fr.drew (Below.refl _ _))).mono ?_; rintro e w4 ⟨va2, vc2, rfl, own4, B4, fr4⟩; have j4 : Below (wr.alloc (.cells #[.int .u64 (dn : Int), .slice va m vc] 137)).heap.size (wr.alloc (.cells #[.int .u64 (dn : Int), .slice va m vc] 137)) w4 := (by first | exact B4 | exact (Fr.drew (Below.refl _ _)).trans B4); have k4 := hA.out.trans (j4.mono hA.out.size); obtain ⟨b40, b41⟩ := hbk.out w4 j4; obtain ⟨a4, ⟨u0, z0⟩, ⟨u1, z1⟩, f0, f1⟩ := hcells.out w4 k4))
        all_goals
          have nx := Lib.hid (hnx.out w4 va2 vc2 k4 own4 (fun k hk => Nat.le_trans hA.out.size (fr4 k hk)))
          clear own4 B4 fr4 j4 k4 b40 b41 a4 z0 z1 f0 f1 a0 b0 b1
          go_wp2_with fail
          exact ⟨⟨i + 1, by omega, by go_num, nx.out⟩, by simp [intOf]; omega⟩
      · obtain rfl : i = R.lines.length := by omega
        have S2 := S0.two
        have hQl := midL_all R (fromP R.lines.length R.perW) hql.out
        obtain ⟨hQn, hQe, _⟩ := midL_rest R (fromP R.lines.length R.perW) R.lines.length
        have hQn8 : (midL R (fromP R.lines.length R.perW) R.lines.length).notes.length = 8 := by rw [hQn]; exact hqn.out
        have hQe8 : (midL R (fromP R.lines.length R.perW) R.lines.length).errs.length = 8 := by rw [hQe]; exact hqe.out
        clear hQn hQe S0 hql hqn hqe hhl
        generalize midL R (fromP R.lines.length R.perW) R.lines.length = Q at *
        have hT : ∀ j, j < 8 → wr.cell? ⟨L.g, 3 + j, none⟩ = some (.pointer (some ⟨L.tb j, 0, none⟩)) := fun j hj => by
          obtain ⟨Fr, _, h1, _⟩ := S2.ex
          exact h1.dev.cell (devCells_thr L R j hj)
        have p0 := hT 0 (by omega)
        have p1 := hT 1 (by omega)
        have p2 := hT 2 (by omega)
        have p3 := hT 3 (by omega)
        have p4 := hT 4 (by omega)
        have p5 := hT 5 (by omega)
        have p6 := hT 6 (by omega)
        have p7 := hT 7 (by omega)
        replace hQl := Lib.hid hQl
        replace hQn8 := Lib.hid hQn8
        replace hQe8 := Lib.hid hQe8
        clear hT
        go_wp2_with fail
        clear p0 p1 p2 p3 p4 p5 p6 p7
        go_loopw [52] (fun v wr => ∃ t : Nat, t ≤ 8 ∧ v = .int .i64 t ∧ Cp2 w F o L T R o2 L2 Q t wr) (fun v _ => 8 - (intOf v).toNat)
        case atStart => exact ⟨0, by omega, rfl, S2⟩
        case round =>
          clear S2
          obtain ⟨t, ht, rfl, S2⟩ := hrel
          by_cases ht8 : t < 8
          · have ht8I : (t : Int) < 8 := by omega
            have ht0I : (0 : Int) ≤ (t : Int) := by omega
            have hwm := Lib.hid (show wrap64 ((t : Int) + 1) = (t : Int) + 1 by unfold wrap64; omega)
            have hix1 := fun w => index_aggT L.tb t ht8 w
            unfold aggT at hix1
            obtain ⟨es, cl, x2, x3, X, U, hnm, hmap, hne1⟩ : ∃ es cl, wr.cell? ⟨L.tb t, 2, none⟩ = some (.int .i64 ((R.errs.getD t 0 : Nat) : Int)) ∧ wr.cell? ⟨L.tb t, 3, none⟩ = some (.map (some (L.nb t))) ∧ wr.cell? ⟨L2.g, 3 + t, none⟩ = some (.pointer (some ⟨L2.tb t, 0, none⟩)) ∧
                (∃ u2 u3, Has wr (L2.tb t) [.pointer (some ⟨L2.g, 0, none⟩), .int .i64 (t : Int), u2, u3] 97) ∧ wr.heap[L.nb t]? = some (.map es cl) ∧ (∀ w1 : World, ∀ b1, w1.heap[b1]? = some (.map es cl) → NoteV w1 b1 T R.lines.length (noteF (R.notes.getD t []))) ∧ L.nb t ≠ L2.tb t ∧ L.tb t ≠ L2.tb t ∧ L2.g ≠ L2.tb t := by
              obtain ⟨Fr, nbs, h1, h2, _⟩ := S2.ex
              obtain ⟨es, cl, y1, y2⟩ := (h1.nov t ht8).1.clone
              have e1 := (h2.thr t ht8).2
              exact ⟨es, cl, (h1.thr t ht8).1.cell (o := 2) rfl, (h1.thr t ht8).1.cell (o := 3) rfl, h2.dev.cell (devCells_thr _ _ t ht8), ⟨_, _, (h2.thr t ht8).1⟩, y1, y2,
                Own.ne (h1.nov t ht8).2 e1 (fun e => hn (congrArg Prod.fst e)), Own.ne (h1.thr t ht8).2 e1 (fun e => hn (congrArg Prod.fst e)), Own.ne h2.fg e1 (by simp)⟩
            obtain ⟨u2, u3, U⟩ := U
            obtain ⟨ne1, ne2, ne3⟩ := hne1
            have c2 := U.cell (o := 2) rfl
            have f2 := U.free 2
            have UA := U.set 2 (.int .i64 ((R.errs.getD t 0 : Nat) : Int))
            have OA : Only (fun k => k = L2.tb t) wr (wr.setCell ⟨L2.tb t, 2, none⟩ (.int .i64 ((R.errs.getD t 0 : Nat) : Int))) := Only.setAt _ _ _ _
            have XA := OA.cell X ne3
            have x3A := OA.cell x3 ne2
            have hmA : (wr.setCell ⟨L2.tb t, 2, none⟩ (.int .i64 ((R.errs.getD t 0 : Nat) : Int))).heap[L.nb t]? = some (.map es cl) := by rw [heap_setCell_ne ne1]; exact hnm
            have XB : ((wr.setCell ⟨L2.tb t, 2, none⟩ (.int .i64 ((R.errs.getD t 0 : Nat) : Int))).alloc (.map es cl)).cell? ⟨L2.g, 3 + t, none⟩ = _ := (((Only.refl (fun k => k = L2.tb t) _).alloc (.map es cl)).cell XA ne3)
            have UB := UA.alloc (.map es cl)
            have c3 := UB.cell (o := 3) rfl
            have f3 := UB.free 3
            have UC := UB.set 3 (.map (some (wr.setCell ⟨L2.tb t, 2, none⟩ (.int .i64 ((R.errs.getD t 0 : Nat) : Int))).heap.size))
            have OC : Only (fun k => k = L2.tb t) wr (((wr.setCell ⟨L2.tb t, 2, none⟩ (.int .i64 ((R.errs.getD t 0 : Nat) : Int))).alloc (.map es cl)).setCell ⟨L2.tb t, 3, none⟩ (.map (some (wr.setCell ⟨L2.tb t, 2, none⟩ (.int .i64 ((R.errs.getD t 0 : Nat) : Int))).heap.size))) :=
              Only.setCell (S := fun k => k = L2.tb t) (OA.alloc _) (a := ⟨L2.tb t, 3, none⟩) (fun _ => rfl) _
            have hst := S2.step (nb' := (wr.setCell ⟨L2.tb t, 2, none⟩ (.int .i64 ((R.errs.getD t 0 : Nat) : Int))).heap.size) ht8 hn (hB.out.tb t ht8) hQn8.out hQe8.out OC UC (hmap _ _ (by
              rw [heap_setCell_ne (by have := UA.lt; show _ ≠ L2.tb t; omega)]; exact heap_alloc_new)) (by rw [hQl.out]) OA.size
            rw [show (wr.setCell ⟨L2.tb t, 2, none⟩ (.int .i64 ((R.errs.getD t 0 : Nat) : Int))).heap.size = wr.heap.size by simp] at hst
            generalize ((R.errs.getD t 0 : Nat) : Int) = er at *
            replace hst := Lib.hid hst
            replace hmA := Lib.hid hmA
            replace ht8 := Lib.hid ht8
            replace ht := Lib.hid ht
            clear U UA OA UB UC OC S2 hmap hnm ne1 ne2 ne3
            go_wp2_with fail
            go_region
            all_goals
              go_wp2_with fail
              go_region_with ((go_at_call 83; (with_reducible refine (mclone_any _ (L.nb t) es cl ?_).mono ?_); (exact hmA.out); rintro e w5 ⟨rfl, rfl⟩))
              all_goals
                have nx := Lib.hid ((hst.out.below (Fr.drew (Below.refl _ _))).below (Fr.drew (Below.refl _ _)))
                have := ht8.out
                clear hst hix1
                go_wp2_with fail
                try rw [hwm.out]
                exact ⟨⟨t + 1, by omega, by go_num, nx.out⟩, by simp [intOf]; omega⟩
          · obtain rfl : t = 8 := by omega
            obtain ⟨d11, d12, d13, d14, ⟨cs, hcs, hl15⟩, ne⟩ : wr.cell? ⟨L.g, 11, none⟩ = some (.bool R.off) ∧ wr.cell? ⟨L.g, 12, none⟩ = some (.bool (decide (0 ≤ R.left))) ∧ wr.cell? ⟨L.g, 13, none⟩ = some (.int .i64 (max R.left 0)) ∧ wr.cell? ⟨L.g, 14, none⟩ = some (.int .u64 (R.exe : Int)) ∧
                (∃ cs, Has wr L2.g cs 94 ∧ cs.length = 15) ∧ L.g ≠ L2.g := by
              obtain ⟨Fr, nbs, h1, h2, _⟩ := S2.ex
              exact ⟨h1.dev.cell (o := 11) rfl, h1.dev.cell (o := 12) rfl, h1.dev.cell (o := 13) rfl, h1.dev.cell (o := 14) rfl, ⟨_, h2.dev, rfl⟩, Own.ne h1.fg h2.fg (fun e => hn (congrArg Prod.fst e))⟩
            have g11 := hcs.cell (get_of_lt (.bool false) (show 11 < cs.length by omega))
            have g12 := hcs.cell (get_of_lt (.bool false) (show 12 < cs.length by omega))
            have g13 := hcs.cell (get_of_lt (.bool false) (show 13 < cs.length by omega))
            have g14 := hcs.cell (get_of_lt (.bool false) (show 14 < cs.length by omega))
            have f11 := hcs.free 11
            have f12 := hcs.free 12
            have f13 := hcs.free 13
            have f14 := hcs.free 14
            have hO : Only (fun k => k = L2.g) wr ((((wr.setCell ⟨L2.g, 11, none⟩ (.bool R.off)).setCell ⟨L2.g, 12, none⟩ (.bool (decide (0 ≤ R.left)))).setCell ⟨L2.g, 13, none⟩ (.int .i64 (max R.left 0))).setCell ⟨L2.g, 14, none⟩ (.int .u64 (R.exe : Int))) :=
              ((((Only.setAt wr L2.g 11 _).trans (Only.setAt _ L2.g 12 _)).trans (Only.setAt _ L2.g 13 _)).trans (Only.setAt _ L2.g 14 _))
            have hfin : CopyPost w F o L o2 T R (.returned (.pointer (some ⟨L2.g, 0, none⟩))) (World.drew ((((wr.setCell ⟨L2.g, 11, none⟩ (.bool R.off)).setCell ⟨L2.g, 12, none⟩ (.bool (decide (0 ≤ R.left)))).setCell ⟨L2.g, 13, none⟩ (.int .i64 (max R.left 0))).setCell ⟨L2.g, 14, none⟩ (.int .u64 (R.exe : Int)))) :=
              S2.fin hn hB.out.g hQn8.out hQe8.out hQl.out hO.drew (fun c hc => ((((hc.set 11 _).set 12 _).set 13 _).set 14 _).drew)
            rw [hpost.out] at hfin
            replace hfin := Lib.hid hfin
            generalize decide (0 ≤ R.left) = arm at *
            generalize max R.left 0 = lft at *
            generalize cs.getD 11 (.bool false) = z11 at *
            generalize cs.getD 12 (.bool false) = z12 at *
            generalize cs.getD 13 (.bool false) = z13 at *
            generalize cs.getD 14 (.bool false) = z14 at *
            clear S2 hO hcs hl15 hpost
            go_wp2_with fail
            go_region
            all_goals
              go_wp2_with fail
              first | exact hfin.out | (go_ret; exact hfin.out)
end Go.Proofs.Ytikjpklbbjmioaa
