/- Walks: both of the program. -/
import Derived.Test.YtgnoikfmhncbmaaGreatDoorB1
import Derived.Deep.CutBlock
set_option linter.unusedVariables false
set_option linter.unusedSimpArgs false
namespace Go.Proofs.YtgnoikfmhncbmaaGreatDoor
open Go.RowKit Go.Lib
set_option maxHeartbeats 4000000 in
theorem both_any (a b : Sp) (ha : a.Bd) (hb : b.Bd) (w : World) (hE : Env w) : Calls Tryz.prog 55 #[a.val, b.val] w (RPost w (bothP a b).val) := by
  have hc1 := fun w hE => cmp_c a.lo b.lo ha.1.2.1 hb.1.2.1 w hE
  have hc2 := fun w hE => cmp_c a.hi b.hi ha.2.2.1 hb.2.2.1 w hE
  have hlo : lowA a.lo b.lo = if b.lo.nl then a.lo else if a.lo.nl then b.lo else if cmpE a.lo b.lo ≠ 0 then a.lo else if cmpX a.lo b.lo < 0 then b.lo else a.lo := rfl
  have hhi : highA a.hi b.hi = if b.hi.nl then a.hi else if a.hi.nl then b.hi else if cmpE a.hi b.hi ≠ 0 then a.hi else if cmpX a.hi b.hi > 0 then b.hi else a.hi := rfl
  have ho1 : ordA a.lo b.lo = (b.lo.nl || a.lo.nl || decide (cmpE a.lo b.lo = 0)) := rfl
  have ho2 : ordA a.hi b.hi = (b.hi.nl || a.hi.nl || decide (cmpE a.hi b.hi = 0)) := rfl
  have hres : bothP a b = ⟨lowA a.lo b.lo, highA a.hi b.hi, (a.ex && b.ex) && ordA a.lo b.lo && ordA a.hi b.hi⟩ := rfl
  obtain ⟨⟨ta, na, ia, xa, ba⟩, ⟨tc, nc, ic, xc, bc⟩, ea⟩ := a
  obtain ⟨⟨tb, nb, ib, xb, bb⟩, ⟨td, nd, id, xd, bd⟩, eb⟩ := b
  dsimp only [RV.val] at hc1 hc2
  dsimp only at hlo hhi ho1 ho2 hres
  generalize bothP ⟨⟨ta, na, ia, xa, ba⟩, ⟨tc, nc, ic, xc, bc⟩, ea⟩ ⟨⟨tb, nb, ib, xb, bb⟩, ⟨td, nd, id, xd, bd⟩, eb⟩ = rs at *
  generalize hpost : RPost w rs.val = post
  replace hpost := Lib.hid hpost
  generalize cmpX ⟨ta, na, ia, xa, ba⟩ ⟨tb, nb, ib, xb, bb⟩ = c1 at *
  generalize cmpE ⟨ta, na, ia, xa, ba⟩ ⟨tb, nb, ib, xb, bb⟩ = e1 at *
  generalize cmpX ⟨tc, nc, ic, xc, bc⟩ ⟨td, nd, id, xd, bd⟩ = c2 at *
  generalize cmpE ⟨tc, nc, ic, xc, bc⟩ ⟨td, nd, id, xd, bd⟩ = e2 at *
  generalize ordA ⟨ta, na, ia, xa, ba⟩ ⟨tb, nb, ib, xb, bb⟩ = o1 at *
  generalize ordA ⟨tc, nc, ic, xc, bc⟩ ⟨td, nd, id, xd, bd⟩ = o2 at *
  generalize lowA ⟨ta, na, ia, xa, ba⟩ ⟨tb, nb, ib, xb, bb⟩ = l1 at *
  generalize highA ⟨tc, nc, ic, xc, bc⟩ ⟨td, nd, id, xd, bd⟩ = l2 at *
  obtain ⟨tl, nl, il, xl, bl⟩ := l1
  obtain ⟨th, nh, ih, xh, bh⟩ := l2
  replace hc1 := Lib.hid hc1
  replace hc2 := Lib.hid hc2
  replace hlo := Lib.hid hlo
  replace hhi := Lib.hid hhi
  replace ho1 := Lib.hid ho1
  replace ho2 := Lib.hid ho2
  replace hres := Lib.hid hres
  clear ha hb
  obtain ⟨W1, hW1⟩ : ∃ W1, W1 = (((w.alloc (.cells #[.int .u8 (ta : Int), .bool na, .int .i64 ia, .string xa, .bool ba, .int .u8 (tc : Int), .bool nc, .int .i64 ic, .string xc, .bool bc, .bool ea] 92)).alloc (.cells #[.int .u8 (tb : Int), .bool nb, .int .i64 ib, .string xb, .bool bb, .int .u8 (td : Int), .bool nd, .int .i64 id, .string xd, .bool bd, .bool eb] 92)).alloc (.cells #[.int .u8 0, .bool false, .int .i64 0, .string ⟨#[]⟩, .bool false, .int .u8 0, .bool false, .int .i64 0, .string ⟨#[]⟩, .bool false, .bool false] 92)).alloc (.cells #[.int .u8 (ta : Int), .bool na, .int .i64 ia, .string xa, .bool ba, .int .u8 (tc : Int), .bool nc, .int .i64 ic, .string xc, .bool bc, .bool (ea && eb)] 92) := ⟨_, rfl⟩
  have HA : Has W1 (w.heap.size) [.int .u8 (ta : Int), .bool na, .int .i64 ia, .string xa, .bool ba, .int .u8 (tc : Int), .bool nc, .int .i64 ic, .string xc, .bool bc, .bool ea] 92 := by
    rw [hW1]; have h := Has.new (w) [.int .u8 (ta : Int), .bool na, .int .i64 ia, .string xa, .bool ba, .int .u8 (tc : Int), .bool nc, .int .i64 ic, .string xc, .bool bc, .bool ea] 92; (try simp only [World.size_alloc] at h); exact (((h.alloc _).alloc _).alloc _)
  have HB : Has W1 (w.heap.size + 1) [.int .u8 (tb : Int), .bool nb, .int .i64 ib, .string xb, .bool bb, .int .u8 (td : Int), .bool nd, .int .i64 id, .string xd, .bool bd, .bool eb] 92 := by
    rw [hW1]; have h := Has.new ((w.alloc (.cells #[.int .u8 (ta : Int), .bool na, .int .i64 ia, .string xa, .bool ba, .int .u8 (tc : Int), .bool nc, .int .i64 ic, .string xc, .bool bc, .bool ea] 92))) [.int .u8 (tb : Int), .bool nb, .int .i64 ib, .string xb, .bool bb, .int .u8 (td : Int), .bool nd, .int .i64 id, .string xd, .bool bd, .bool eb] 92; (try simp only [World.size_alloc] at h); exact ((h.alloc _).alloc _)
  have HR : Has W1 (w.heap.size + 1 + 1) [.int .u8 0, .bool false, .int .i64 0, .string ⟨#[]⟩, .bool false, .int .u8 0, .bool false, .int .i64 0, .string ⟨#[]⟩, .bool false, .bool false] 92 := by
    rw [hW1]; have h := Has.new (((w.alloc (.cells #[.int .u8 (ta : Int), .bool na, .int .i64 ia, .string xa, .bool ba, .int .u8 (tc : Int), .bool nc, .int .i64 ic, .string xc, .bool bc, .bool ea] 92)).alloc (.cells #[.int .u8 (tb : Int), .bool nb, .int .i64 ib, .string xb, .bool bb, .int .u8 (td : Int), .bool nd, .int .i64 id, .string xd, .bool bd, .bool eb] 92))) [.int .u8 0, .bool false, .int .i64 0, .string ⟨#[]⟩, .bool false, .int .u8 0, .bool false, .int .i64 0, .string ⟨#[]⟩, .bool false, .bool false] 92; (try simp only [World.size_alloc] at h); exact (h.alloc _)
  have HS : Has W1 (w.heap.size + 1 + 1 + 1) [.int .u8 (ta : Int), .bool na, .int .i64 ia, .string xa, .bool ba, .int .u8 (tc : Int), .bool nc, .int .i64 ic, .string xc, .bool bc, .bool (ea && eb)] 92 := by
    rw [hW1]; have h := Has.new ((((w.alloc (.cells #[.int .u8 (ta : Int), .bool na, .int .i64 ia, .string xa, .bool ba, .int .u8 (tc : Int), .bool nc, .int .i64 ic, .string xc, .bool bc, .bool ea] 92)).alloc (.cells #[.int .u8 (tb : Int), .bool nb, .int .i64 ib, .string xb, .bool bb, .int .u8 (td : Int), .bool nd, .int .i64 id, .string xd, .bool bd, .bool eb] 92)).alloc (.cells #[.int .u8 0, .bool false, .int .i64 0, .string ⟨#[]⟩, .bool false, .int .u8 0, .bool false, .int .i64 0, .string ⟨#[]⟩, .bool false, .bool false] 92))) [.int .u8 (ta : Int), .bool na, .int .i64 ia, .string xa, .bool ba, .int .u8 (tc : Int), .bool nc, .int .i64 ic, .string xc, .bool bc, .bool (ea && eb)] 92; (try simp only [World.size_alloc] at h); exact h
  have hbW1 : Below w.heap.size w W1 := by rw [hW1]; exact (((((Below.refl _ _).alloc (by first | exact Nat.le_refl _ | (simp only [World.size_alloc]; omega)) _).alloc (by first | exact Nat.le_refl _ | (simp only [World.size_alloc]; omega)) _).alloc (by first | exact Nat.le_refl _ | (simp only [World.size_alloc]; omega)) _).alloc (by first | exact Nat.le_refl _ | (simp only [World.size_alloc]; omega)) _)
  have hzW1 : W1.heap.size = w.heap.size + 4 := by rw [hW1]; simp
  replace hW1 := Lib.hid hW1
  have hE1 := hE.below hbW1
  unfold Sp.val Sp.cells RV.cells
  simp only [List.cons_append, List.nil_append]
  go_enter Tryz.func55, Tryz.ntmps55
  replace hzW1 := Lib.hid hzW1
  go_upto_region 1 with fail
  go_cut [5] (fun p wx => p = .pointer (some ⟨w.heap.size + 1 + 1 + 1, 0, none⟩) ∧ W1 = wx)
  case first =>
    cases ea <;> cases eb
    all_goals
      go_wp2_with fail
      go_meet
      exact ⟨rfl, hW1.out⟩
  case rest =>
    obtain ⟨rfl, rfl⟩ := hcut
    have cA0 := HA.cell (o := 0) rfl
    have cA1 := HA.cell (o := 1) rfl
    have cA2 := HA.cell (o := 2) rfl
    have cA3 := HA.cell (o := 3) rfl
    have cA4 := HA.cell (o := 4) rfl
    have cA5 := HA.cell (o := 5) rfl
    have cA6 := HA.cell (o := 6) rfl
    have cA7 := HA.cell (o := 7) rfl
    have cA8 := HA.cell (o := 8) rfl
    have cA9 := HA.cell (o := 9) rfl
    have cA10 := HA.cell (o := 10) rfl
    have cB0 := HB.cell (o := 0) rfl
    have cB1 := HB.cell (o := 1) rfl
    have cB2 := HB.cell (o := 2) rfl
    have cB3 := HB.cell (o := 3) rfl
    have cB4 := HB.cell (o := 4) rfl
    have cB5 := HB.cell (o := 5) rfl
    have cB6 := HB.cell (o := 6) rfl
    have cB7 := HB.cell (o := 7) rfl
    have cB8 := HB.cell (o := 8) rfl
    have cB9 := HB.cell (o := 9) rfl
    have cB10 := HB.cell (o := 10) rfl
    go_wp2_with fail
    refine (hc1.out _ hE1).mono ?_
    rintro e w1 ⟨rfl, hb1⟩
    clear hE1
    replace hzW1 := hzW1.out
    replace HA : Has w1 (w.heap.size) [.int .u8 (ta : Int), .bool na, .int .i64 ia, .string xa, .bool ba, .int .u8 (tc : Int), .bool nc, .int .i64 ic, .string xc, .bool bc, .bool ea] 92 := HA.only (Only.of_below hb1) (Nat.not_le.2 HA.lt)
    replace HB : Has w1 (w.heap.size + 1) [.int .u8 (tb : Int), .bool nb, .int .i64 ib, .string xb, .bool bb, .int .u8 (td : Int), .bool nd, .int .i64 id, .string xd, .bool bd, .bool eb] 92 := HB.only (Only.of_below hb1) (Nat.not_le.2 HB.lt)
    replace HR : Has w1 (w.heap.size + 1 + 1) [.int .u8 0, .bool false, .int .i64 0, .string ⟨#[]⟩, .bool false, .int .u8 0, .bool false, .int .i64 0, .string ⟨#[]⟩, .bool false, .bool false] 92 := HR.only (Only.of_below hb1) (Nat.not_le.2 HR.lt)
    replace HS : Has w1 (w.heap.size + 1 + 1 + 1) [.int .u8 (ta : Int), .bool na, .int .i64 ia, .string xa, .bool ba, .int .u8 (tc : Int), .bool nc, .int .i64 ic, .string xc, .bool bc, .bool (ea && eb)] 92 := HS.only (Only.of_below hb1) (Nat.not_le.2 HS.lt)
    have hbw1 : Below w.heap.size w w1 := hbW1.trans (hb1.mono hbW1.size)
    have hzw1 := hb1.size
    clear cA0 cA1 cA2 cA3 cA4 cA5 cA6 cA7 cA8 cA9 cA10 cB0 cB1 cB2 cB3 cB4 cB5 cB6 cB7 cB8 cB9 cB10
    have cA0 := HA.cell (o := 0) rfl
    have cA1 := HA.cell (o := 1) rfl
    have cA2 := HA.cell (o := 2) rfl
    have cA3 := HA.cell (o := 3) rfl
    have cA4 := HA.cell (o := 4) rfl
    have cA5 := HA.cell (o := 5) rfl
    have cA6 := HA.cell (o := 6) rfl
    have cA7 := HA.cell (o := 7) rfl
    have cA8 := HA.cell (o := 8) rfl
    have cA9 := HA.cell (o := 9) rfl
    have cA10 := HA.cell (o := 10) rfl
    have cB0 := HB.cell (o := 0) rfl
    have cB1 := HB.cell (o := 1) rfl
    have cB2 := HB.cell (o := 2) rfl
    have cB3 := HB.cell (o := 3) rfl
    have cB4 := HB.cell (o := 4) rfl
    have cB5 := HB.cell (o := 5) rfl
    have cB6 := HB.cell (o := 6) rfl
    have cB7 := HB.cell (o := 7) rfl
    have cB8 := HB.cell (o := 8) rfl
    have cB9 := HB.cell (o := 9) rfl
    have cB10 := HB.cell (o := 10) rfl
    have cS0 := HS.cell (o := 0) rfl
    have cS1 := HS.cell (o := 1) rfl
    have cS2 := HS.cell (o := 2) rfl
    have cS3 := HS.cell (o := 3) rfl
    have cS4 := HS.cell (o := 4) rfl
    have cS5 := HS.cell (o := 5) rfl
    have cS6 := HS.cell (o := 6) rfl
    have cS7 := HS.cell (o := 7) rfl
    have cS8 := HS.cell (o := 8) rfl
    have cS9 := HS.cell (o := 9) rfl
    have cS10 := HS.cell (o := 10) rfl
    have fS0 := HS.free 0
    have fS1 := HS.free 1
    have fS2 := HS.free 2
    have fS3 := HS.free 3
    have fS4 := HS.free 4
    have fS5 := HS.free 5
    have fS6 := HS.free 6
    have fS7 := HS.free 7
    have fS8 := HS.free 8
    have fS9 := HS.free 9
    have fS10 := HS.free 10
    replace hb1 := Lib.hid hb1
    replace hzW1 := Lib.hid hzW1
    go_upto_block 0 with fail
    go_cut [] (fun wx => Has wx (w.heap.size) [.int .u8 (ta : Int), .bool na, .int .i64 ia, .string xa, .bool ba, .int .u8 (tc : Int), .bool nc, .int .i64 ic, .string xc, .bool bc, .bool ea] 92 ∧ Has wx (w.heap.size + 1) [.int .u8 (tb : Int), .bool nb, .int .i64 ib, .string xb, .bool bb, .int .u8 (td : Int), .bool nd, .int .i64 id, .string xd, .bool bd, .bool eb] 92 ∧ Has wx (w.heap.size + 1 + 1) [.int .u8 0, .bool false, .int .i64 0, .string ⟨#[]⟩, .bool false, .int .u8 0, .bool false, .int .i64 0, .string ⟨#[]⟩, .bool false, .bool false] 92 ∧ Has wx (w.heap.size + 1 + 1 + 1) [.int .u8 (tl : Int), .bool nl, .int .i64 il, .string xl, .bool bl, .int .u8 (tc : Int), .bool nc, .int .i64 ic, .string xc, .bool bc, .bool (ea && eb && o1)] 92 ∧ Below w.heap.size w wx ∧ Env wx)
    case first =>
      cases nb with
      | true =>
        replace hzW1 := hzW1.out
        have h1 := hlo.out
        have h2 := ho1.out
        simp only [if_true, Bool.false_eq_true, if_false, Bool.true_or, Bool.or_true, Bool.false_or, Bool.or_false] at h1 h2
        cases h1
        subst h2
        have hend := hE.below hbw1
        have gHA := Lib.hid HA
        have gHB := Lib.hid HB
        have gHR := Lib.hid HR
        have gHS := Lib.hid HS
        have ghend := Lib.hid hend
        have ghbw1 := Lib.hid hbw1
        clear hend hE
        replace hzW1 := Lib.hid hzW1
        go_wp2_with fail
        go_meet
        exact ⟨gHA.out, gHB.out, gHR.out, by have := gHS.out; simpa using this, ghbw1.out, ghend.out⟩
      | false =>
        cases na with
        | true =>
          replace hzW1 := hzW1.out
          obtain ⟨W2, hW2⟩ : ∃ W2, W2 = ((((w1.setCell ⟨w.heap.size + 1 + 1 + 1, 0, none⟩ (.int .u8 (tb : Int))).setCell ⟨w.heap.size + 1 + 1 + 1, 1, none⟩ (.bool false)).setCell ⟨w.heap.size + 1 + 1 + 1, 2, none⟩ (.int .i64 ib)).setCell ⟨w.heap.size + 1 + 1 + 1, 3, none⟩ (.string xb)).setCell ⟨w.heap.size + 1 + 1 + 1, 4, none⟩ (.bool bb) := ⟨_, rfl⟩
          replace HA : Has W2 (w.heap.size) [.int .u8 (ta : Int), .bool true, .int .i64 ia, .string xa, .bool ba, .int .u8 (tc : Int), .bool nc, .int .i64 ic, .string xc, .bool bc, .bool ea] 92 := by rw [hW2]; exact (((((HA.set_ne (a := ⟨w.heap.size + 1 + 1 + 1, 0, none⟩) (by first | (simp; done) | (simp; omega) | omega) _).set_ne (a := ⟨w.heap.size + 1 + 1 + 1, 1, none⟩) (by first | (simp; done) | (simp; omega) | omega) _).set_ne (a := ⟨w.heap.size + 1 + 1 + 1, 2, none⟩) (by first | (simp; done) | (simp; omega) | omega) _).set_ne (a := ⟨w.heap.size + 1 + 1 + 1, 3, none⟩) (by first | (simp; done) | (simp; omega) | omega) _).set_ne (a := ⟨w.heap.size + 1 + 1 + 1, 4, none⟩) (by first | (simp; done) | (simp; omega) | omega) _)
          replace HB : Has W2 (w.heap.size + 1) [.int .u8 (tb : Int), .bool false, .int .i64 ib, .string xb, .bool bb, .int .u8 (td : Int), .bool nd, .int .i64 id, .string xd, .bool bd, .bool eb] 92 := by rw [hW2]; exact (((((HB.set_ne (a := ⟨w.heap.size + 1 + 1 + 1, 0, none⟩) (by first | (simp; done) | (simp; omega) | omega) _).set_ne (a := ⟨w.heap.size + 1 + 1 + 1, 1, none⟩) (by first | (simp; done) | (simp; omega) | omega) _).set_ne (a := ⟨w.heap.size + 1 + 1 + 1, 2, none⟩) (by first | (simp; done) | (simp; omega) | omega) _).set_ne (a := ⟨w.heap.size + 1 + 1 + 1, 3, none⟩) (by first | (simp; done) | (simp; omega) | omega) _).set_ne (a := ⟨w.heap.size + 1 + 1 + 1, 4, none⟩) (by first | (simp; done) | (simp; omega) | omega) _)
          replace HR : Has W2 (w.heap.size + 1 + 1) [.int .u8 0, .bool false, .int .i64 0, .string ⟨#[]⟩, .bool false, .int .u8 0, .bool false, .int .i64 0, .string ⟨#[]⟩, .bool false, .bool false] 92 := by rw [hW2]; exact (((((HR.set_ne (a := ⟨w.heap.size + 1 + 1 + 1, 0, none⟩) (by first | (simp; done) | (simp; omega) | omega) _).set_ne (a := ⟨w.heap.size + 1 + 1 + 1, 1, none⟩) (by first | (simp; done) | (simp; omega) | omega) _).set_ne (a := ⟨w.heap.size + 1 + 1 + 1, 2, none⟩) (by first | (simp; done) | (simp; omega) | omega) _).set_ne (a := ⟨w.heap.size + 1 + 1 + 1, 3, none⟩) (by first | (simp; done) | (simp; omega) | omega) _).set_ne (a := ⟨w.heap.size + 1 + 1 + 1, 4, none⟩) (by first | (simp; done) | (simp; omega) | omega) _)
          replace HS : Has W2 (w.heap.size + 1 + 1 + 1) [.int .u8 (tb : Int), .bool false, .int .i64 ib, .string xb, .bool bb, .int .u8 (tc : Int), .bool nc, .int .i64 ic, .string xc, .bool bc, .bool (ea && eb)] 92 := by rw [hW2]; exact (((((HS.set 0 (.int .u8 (tb : Int))).set 1 (.bool false)).set 2 (.int .i64 ib)).set 3 (.string xb)).set 4 (.bool bb))
          have hbW2 : Below w.heap.size w W2 := by rw [hW2]; exact (((((hbw1.setCell (p := ⟨w.heap.size + 1 + 1 + 1, 0, none⟩) (by first | exact Nat.le_refl _ | (simp; omega) | omega) _).setCell (p := ⟨w.heap.size + 1 + 1 + 1, 1, none⟩) (by first | exact Nat.le_refl _ | (simp; omega) | omega) _).setCell (p := ⟨w.heap.size + 1 + 1 + 1, 2, none⟩) (by first | exact Nat.le_refl _ | (simp; omega) | omega) _).setCell (p := ⟨w.heap.size + 1 + 1 + 1, 3, none⟩) (by first | exact Nat.le_refl _ | (simp; omega) | omega) _).setCell (p := ⟨w.heap.size + 1 + 1 + 1, 4, none⟩) (by first | exact Nat.le_refl _ | (simp; omega) | omega) _)
          have hzW2 : W2.heap.size = w1.heap.size := by rw [hW2]; simp
          replace hW2 := Lib.hid hW2
          have h1 := hlo.out
          have h2 := ho1.out
          simp only [if_true, Bool.false_eq_true, if_false, Bool.true_or, Bool.or_true, Bool.false_or, Bool.or_false] at h1 h2
          cases h1
          subst h2
          have hend := hE.below hbW2
          have gHA := Lib.hid HA
          have gHB := Lib.hid HB
          have gHR := Lib.hid HR
          have gHS := Lib.hid HS
          have ghend := Lib.hid hend
          have ghbW2 := Lib.hid hbW2
          clear hend hE
          replace hzW1 := Lib.hid hzW1
          replace hzW2 := Lib.hid hzW2
          go_wp2_with fail
          go_meet
          rw [show ((((w1.setCell ⟨w.heap.size + 1 + 1 + 1, 0, none⟩ (.int .u8 (tb : Int))).setCell ⟨w.heap.size + 1 + 1 + 1, 1, none⟩ (.bool false)).setCell ⟨w.heap.size + 1 + 1 + 1, 2, none⟩ (.int .i64 ib)).setCell ⟨w.heap.size + 1 + 1 + 1, 3, none⟩ (.string xb)).setCell ⟨w.heap.size + 1 + 1 + 1, 4, none⟩ (.bool bb) = W2 from hW2.out.symm]
          exact ⟨gHA.out, gHB.out, gHR.out, by have := gHS.out; simpa using this, ghbW2.out, ghend.out⟩
        | false =>
          by_cases he : e1 = 0
          · subst he
            by_cases hl : c1 < 0
            · replace hzW1 := hzW1.out
              have hd : decide (c1 < 0) = true := decide_eq_true hl
              have hd0 : (((0 : Nat) : Int) != 0) = false := rfl
              obtain ⟨W2, hW2⟩ : ∃ W2, W2 = ((((w1.setCell ⟨w.heap.size + 1 + 1 + 1, 0, none⟩ (.int .u8 (tb : Int))).setCell ⟨w.heap.size + 1 + 1 + 1, 1, none⟩ (.bool false)).setCell ⟨w.heap.size + 1 + 1 + 1, 2, none⟩ (.int .i64 ib)).setCell ⟨w.heap.size + 1 + 1 + 1, 3, none⟩ (.string xb)).setCell ⟨w.heap.size + 1 + 1 + 1, 4, none⟩ (.bool bb) := ⟨_, rfl⟩
              replace HA : Has W2 (w.heap.size) [.int .u8 (ta : Int), .bool false, .int .i64 ia, .string xa, .bool ba, .int .u8 (tc : Int), .bool nc, .int .i64 ic, .string xc, .bool bc, .bool ea] 92 := by rw [hW2]; exact (((((HA.set_ne (a := ⟨w.heap.size + 1 + 1 + 1, 0, none⟩) (by first | (simp; done) | (simp; omega) | omega) _).set_ne (a := ⟨w.heap.size + 1 + 1 + 1, 1, none⟩) (by first | (simp; done) | (simp; omega) | omega) _).set_ne (a := ⟨w.heap.size + 1 + 1 + 1, 2, none⟩) (by first | (simp; done) | (simp; omega) | omega) _).set_ne (a := ⟨w.heap.size + 1 + 1 + 1, 3, none⟩) (by first | (simp; done) | (simp; omega) | omega) _).set_ne (a := ⟨w.heap.size + 1 + 1 + 1, 4, none⟩) (by first | (simp; done) | (simp; omega) | omega) _)
              replace HB : Has W2 (w.heap.size + 1) [.int .u8 (tb : Int), .bool false, .int .i64 ib, .string xb, .bool bb, .int .u8 (td : Int), .bool nd, .int .i64 id, .string xd, .bool bd, .bool eb] 92 := by rw [hW2]; exact (((((HB.set_ne (a := ⟨w.heap.size + 1 + 1 + 1, 0, none⟩) (by first | (simp; done) | (simp; omega) | omega) _).set_ne (a := ⟨w.heap.size + 1 + 1 + 1, 1, none⟩) (by first | (simp; done) | (simp; omega) | omega) _).set_ne (a := ⟨w.heap.size + 1 + 1 + 1, 2, none⟩) (by first | (simp; done) | (simp; omega) | omega) _).set_ne (a := ⟨w.heap.size + 1 + 1 + 1, 3, none⟩) (by first | (simp; done) | (simp; omega) | omega) _).set_ne (a := ⟨w.heap.size + 1 + 1 + 1, 4, none⟩) (by first | (simp; done) | (simp; omega) | omega) _)
              replace HR : Has W2 (w.heap.size + 1 + 1) [.int .u8 0, .bool false, .int .i64 0, .string ⟨#[]⟩, .bool false, .int .u8 0, .bool false, .int .i64 0, .string ⟨#[]⟩, .bool false, .bool false] 92 := by rw [hW2]; exact (((((HR.set_ne (a := ⟨w.heap.size + 1 + 1 + 1, 0, none⟩) (by first | (simp; done) | (simp; omega) | omega) _).set_ne (a := ⟨w.heap.size + 1 + 1 + 1, 1, none⟩) (by first | (simp; done) | (simp; omega) | omega) _).set_ne (a := ⟨w.heap.size + 1 + 1 + 1, 2, none⟩) (by first | (simp; done) | (simp; omega) | omega) _).set_ne (a := ⟨w.heap.size + 1 + 1 + 1, 3, none⟩) (by first | (simp; done) | (simp; omega) | omega) _).set_ne (a := ⟨w.heap.size + 1 + 1 + 1, 4, none⟩) (by first | (simp; done) | (simp; omega) | omega) _)
              replace HS : Has W2 (w.heap.size + 1 + 1 + 1) [.int .u8 (tb : Int), .bool false, .int .i64 ib, .string xb, .bool bb, .int .u8 (tc : Int), .bool nc, .int .i64 ic, .string xc, .bool bc, .bool (ea && eb)] 92 := by rw [hW2]; exact (((((HS.set 0 (.int .u8 (tb : Int))).set 1 (.bool false)).set 2 (.int .i64 ib)).set 3 (.string xb)).set 4 (.bool bb))
              have hbW2 : Below w.heap.size w W2 := by rw [hW2]; exact (((((hbw1.setCell (p := ⟨w.heap.size + 1 + 1 + 1, 0, none⟩) (by first | exact Nat.le_refl _ | (simp; omega) | omega) _).setCell (p := ⟨w.heap.size + 1 + 1 + 1, 1, none⟩) (by first | exact Nat.le_refl _ | (simp; omega) | omega) _).setCell (p := ⟨w.heap.size + 1 + 1 + 1, 2, none⟩) (by first | exact Nat.le_refl _ | (simp; omega) | omega) _).setCell (p := ⟨w.heap.size + 1 + 1 + 1, 3, none⟩) (by first | exact Nat.le_refl _ | (simp; omega) | omega) _).setCell (p := ⟨w.heap.size + 1 + 1 + 1, 4, none⟩) (by first | exact Nat.le_refl _ | (simp; omega) | omega) _)
              have hzW2 : W2.heap.size = w1.heap.size := by rw [hW2]; simp
              replace hW2 := Lib.hid hW2
              have h1 := hlo.out
              have h2 := ho1.out
              simp only [if_true, Bool.false_eq_true, if_false, Bool.true_or, Bool.or_true, Bool.false_or, Bool.or_false, ne_eq, not_true_eq_false, hl, decide_true] at h1 h2
              cases h1
              subst h2
              have hend := hE.below hbW2
              have gHA := Lib.hid HA
              have gHB := Lib.hid HB
              have gHR := Lib.hid HR
              have gHS := Lib.hid HS
              have ghend := Lib.hid hend
              have ghbW2 := Lib.hid hbW2
              clear hend hE
              replace hzW1 := Lib.hid hzW1
              replace hzW2 := Lib.hid hzW2
              go_wp2_with fail
              go_meet
              rw [show ((((w1.setCell ⟨w.heap.size + 1 + 1 + 1, 0, none⟩ (.int .u8 (tb : Int))).setCell ⟨w.heap.size + 1 + 1 + 1, 1, none⟩ (.bool false)).setCell ⟨w.heap.size + 1 + 1 + 1, 2, none⟩ (.int .i64 ib)).setCell ⟨w.heap.size + 1 + 1 + 1, 3, none⟩ (.string xb)).setCell ⟨w.heap.size + 1 + 1 + 1, 4, none⟩ (.bool bb) = W2 from hW2.out.symm]
              exact ⟨gHA.out, gHB.out, gHR.out, by have := gHS.out; simpa using this, ghbW2.out, ghend.out⟩
            · replace hzW1 := hzW1.out
              have hd : decide (c1 < 0) = false := decide_eq_false hl
              have hd0 : (((0 : Nat) : Int) != 0) = false := rfl
              have h1 := hlo.out
              have h2 := ho1.out
              simp only [if_true, Bool.false_eq_true, if_false, Bool.true_or, Bool.or_true, Bool.false_or, Bool.or_false, ne_eq, not_true_eq_false, hl, decide_true] at h1 h2
              cases h1
              subst h2
              have hend := hE.below hbw1
              have gHA := Lib.hid HA
              have gHB := Lib.hid HB
              have gHR := Lib.hid HR
              have gHS := Lib.hid HS
              have ghend := Lib.hid hend
              have ghbw1 := Lib.hid hbw1
              clear hend hE
              replace hzW1 := Lib.hid hzW1
              go_wp2_with fail
              go_meet
              exact ⟨gHA.out, gHB.out, gHR.out, by have := gHS.out; simpa using this, ghbw1.out, ghend.out⟩
          · replace hzW1 := hzW1.out
            have hd0 : ((e1 : Int) != 0) = true := by simpa using he
            obtain ⟨W2, hW2⟩ : ∃ W2, W2 = w1.setCell ⟨w.heap.size + 1 + 1 + 1, 10, none⟩ (.bool false) := ⟨_, rfl⟩
            replace HA : Has W2 (w.heap.size) [.int .u8 (ta : Int), .bool false, .int .i64 ia, .string xa, .bool ba, .int .u8 (tc : Int), .bool nc, .int .i64 ic, .string xc, .bool bc, .bool ea] 92 := by rw [hW2]; exact (HA.set_ne (a := ⟨w.heap.size + 1 + 1 + 1, 10, none⟩) (by first | (simp; done) | (simp; omega) | omega) _)
            replace HB : Has W2 (w.heap.size + 1) [.int .u8 (tb : Int), .bool false, .int .i64 ib, .string xb, .bool bb, .int .u8 (td : Int), .bool nd, .int .i64 id, .string xd, .bool bd, .bool eb] 92 := by rw [hW2]; exact (HB.set_ne (a := ⟨w.heap.size + 1 + 1 + 1, 10, none⟩) (by first | (simp; done) | (simp; omega) | omega) _)
            replace HR : Has W2 (w.heap.size + 1 + 1) [.int .u8 0, .bool false, .int .i64 0, .string ⟨#[]⟩, .bool false, .int .u8 0, .bool false, .int .i64 0, .string ⟨#[]⟩, .bool false, .bool false] 92 := by rw [hW2]; exact (HR.set_ne (a := ⟨w.heap.size + 1 + 1 + 1, 10, none⟩) (by first | (simp; done) | (simp; omega) | omega) _)
            replace HS : Has W2 (w.heap.size + 1 + 1 + 1) [.int .u8 (ta : Int), .bool false, .int .i64 ia, .string xa, .bool ba, .int .u8 (tc : Int), .bool nc, .int .i64 ic, .string xc, .bool bc, .bool false] 92 := by rw [hW2]; exact (HS.set 10 (.bool false))
            have hbW2 : Below w.heap.size w W2 := by rw [hW2]; exact (hbw1.setCell (p := ⟨w.heap.size + 1 + 1 + 1, 10, none⟩) (by first | exact Nat.le_refl _ | (simp; omega) | omega) _)
            have hzW2 : W2.heap.size = w1.heap.size := by rw [hW2]; simp
            replace hW2 := Lib.hid hW2
            have h1 := hlo.out
            have h2 := ho1.out
            simp only [if_true, Bool.false_eq_true, if_false, Bool.true_or, Bool.or_true, Bool.false_or, Bool.or_false, ne_eq, he, not_false_eq_true, decide_false] at h1 h2
            cases h1
            subst h2
            have hend := hE.below hbW2
            have gHA := Lib.hid HA
            have gHB := Lib.hid HB
            have gHR := Lib.hid HR
            have gHS := Lib.hid HS
            have ghend := Lib.hid hend
            have ghbW2 := Lib.hid hbW2
            clear hend hE
            replace hzW1 := Lib.hid hzW1
            replace hzW2 := Lib.hid hzW2
            go_wp2_with fail
            go_meet
            rw [show w1.setCell ⟨w.heap.size + 1 + 1 + 1, 10, none⟩ (.bool false) = W2 from hW2.out.symm]
            exact ⟨gHA.out, gHB.out, gHR.out, by have := gHS.out; simpa using this, ghbW2.out, ghend.out⟩
    case rest =>
      obtain ⟨wa, rfl⟩ : ∃ wa : World, wa = wc := ⟨_, rfl⟩
      clear HA HB HR HS hbw1
      obtain ⟨HA, HB, HR, HS, hbwa, hEa⟩ := hcut
      have cA0 := HA.cell (o := 0) rfl
      have cA1 := HA.cell (o := 1) rfl
      have cA2 := HA.cell (o := 2) rfl
      have cA3 := HA.cell (o := 3) rfl
      have cA4 := HA.cell (o := 4) rfl
      have cA5 := HA.cell (o := 5) rfl
      have cA6 := HA.cell (o := 6) rfl
      have cA7 := HA.cell (o := 7) rfl
      have cA8 := HA.cell (o := 8) rfl
      have cA9 := HA.cell (o := 9) rfl
      have cA10 := HA.cell (o := 10) rfl
      have cB0 := HB.cell (o := 0) rfl
      have cB1 := HB.cell (o := 1) rfl
      have cB2 := HB.cell (o := 2) rfl
      have cB3 := HB.cell (o := 3) rfl
      have cB4 := HB.cell (o := 4) rfl
      have cB5 := HB.cell (o := 5) rfl
      have cB6 := HB.cell (o := 6) rfl
      have cB7 := HB.cell (o := 7) rfl
      have cB8 := HB.cell (o := 8) rfl
      have cB9 := HB.cell (o := 9) rfl
      have cB10 := HB.cell (o := 10) rfl
      go_wp2_with fail
      refine (hc2.out _ hEa).mono ?_
      rintro e w2 ⟨rfl, hb2⟩
      clear hEa
      replace hzW1 := hzW1.out
      replace HA : Has w2 (w.heap.size) [.int .u8 (ta : Int), .bool na, .int .i64 ia, .string xa, .bool ba, .int .u8 (tc : Int), .bool nc, .int .i64 ic, .string xc, .bool bc, .bool ea] 92 := HA.only (Only.of_below hb2) (Nat.not_le.2 HA.lt)
      replace HB : Has w2 (w.heap.size + 1) [.int .u8 (tb : Int), .bool nb, .int .i64 ib, .string xb, .bool bb, .int .u8 (td : Int), .bool nd, .int .i64 id, .string xd, .bool bd, .bool eb] 92 := HB.only (Only.of_below hb2) (Nat.not_le.2 HB.lt)
      replace HR : Has w2 (w.heap.size + 1 + 1) [.int .u8 0, .bool false, .int .i64 0, .string ⟨#[]⟩, .bool false, .int .u8 0, .bool false, .int .i64 0, .string ⟨#[]⟩, .bool false, .bool false] 92 := HR.only (Only.of_below hb2) (Nat.not_le.2 HR.lt)
      replace HS : Has w2 (w.heap.size + 1 + 1 + 1) [.int .u8 (tl : Int), .bool nl, .int .i64 il, .string xl, .bool bl, .int .u8 (tc : Int), .bool nc, .int .i64 ic, .string xc, .bool bc, .bool (ea && eb && o1)] 92 := HS.only (Only.of_below hb2) (Nat.not_le.2 HS.lt)
      have hbw2 : Below w.heap.size w w2 := hbwa.trans (hb2.mono hbwa.size)
      have hzw2 := hb2.size
      clear cA0 cA1 cA2 cA3 cA4 cA5 cA6 cA7 cA8 cA9 cA10 cB0 cB1 cB2 cB3 cB4 cB5 cB6 cB7 cB8 cB9 cB10
      have cA0 := HA.cell (o := 0) rfl
      have cA1 := HA.cell (o := 1) rfl
      have cA2 := HA.cell (o := 2) rfl
      have cA3 := HA.cell (o := 3) rfl
      have cA4 := HA.cell (o := 4) rfl
      have cA5 := HA.cell (o := 5) rfl
      have cA6 := HA.cell (o := 6) rfl
      have cA7 := HA.cell (o := 7) rfl
      have cA8 := HA.cell (o := 8) rfl
      have cA9 := HA.cell (o := 9) rfl
      have cA10 := HA.cell (o := 10) rfl
      have cB0 := HB.cell (o := 0) rfl
      have cB1 := HB.cell (o := 1) rfl
      have cB2 := HB.cell (o := 2) rfl
      have cB3 := HB.cell (o := 3) rfl
      have cB4 := HB.cell (o := 4) rfl
      have cB5 := HB.cell (o := 5) rfl
      have cB6 := HB.cell (o := 6) rfl
      have cB7 := HB.cell (o := 7) rfl
      have cB8 := HB.cell (o := 8) rfl
      have cB9 := HB.cell (o := 9) rfl
      have cB10 := HB.cell (o := 10) rfl
      have cS0 := HS.cell (o := 0) rfl
      have cS1 := HS.cell (o := 1) rfl
      have cS2 := HS.cell (o := 2) rfl
      have cS3 := HS.cell (o := 3) rfl
      have cS4 := HS.cell (o := 4) rfl
      have cS5 := HS.cell (o := 5) rfl
      have cS6 := HS.cell (o := 6) rfl
      have cS7 := HS.cell (o := 7) rfl
      have cS8 := HS.cell (o := 8) rfl
      have cS9 := HS.cell (o := 9) rfl
      have cS10 := HS.cell (o := 10) rfl
      have fS0 := HS.free 0
      have fS1 := HS.free 1
      have fS2 := HS.free 2
      have fS3 := HS.free 3
      have fS4 := HS.free 4
      have fS5 := HS.free 5
      have fS6 := HS.free 6
      have fS7 := HS.free 7
      have fS8 := HS.free 8
      have fS9 := HS.free 9
      have fS10 := HS.free 10
      replace hb2 := Lib.hid hb2
      replace hzW1 := Lib.hid hzW1
      go_upto_block 1 with fail
      go_cut [] (fun wx => Has wx (w.heap.size) [.int .u8 (ta : Int), .bool na, .int .i64 ia, .string xa, .bool ba, .int .u8 (tc : Int), .bool nc, .int .i64 ic, .string xc, .bool bc, .bool ea] 92 ∧ Has wx (w.heap.size + 1) [.int .u8 (tb : Int), .bool nb, .int .i64 ib, .string xb, .bool bb, .int .u8 (td : Int), .bool nd, .int .i64 id, .string xd, .bool bd, .bool eb] 92 ∧ Has wx (w.heap.size + 1 + 1) [.int .u8 0, .bool false, .int .i64 0, .string ⟨#[]⟩, .bool false, .int .u8 0, .bool false, .int .i64 0, .string ⟨#[]⟩, .bool false, .bool false] 92 ∧ Has wx (w.heap.size + 1 + 1 + 1) [.int .u8 (tl : Int), .bool nl, .int .i64 il, .string xl, .bool bl, .int .u8 (th : Int), .bool nh, .int .i64 ih, .string xh, .bool bh, .bool (ea && eb && o1 && o2)] 92 ∧ Below w.heap.size w wx ∧ Env wx)
      case first =>
        cases nd with
        | true =>
          replace hzW1 := hzW1.out
          have h1 := hhi.out
          have h2 := ho2.out
          simp only [if_true, Bool.false_eq_true, if_false, Bool.true_or, Bool.or_true, Bool.false_or, Bool.or_false] at h1 h2
          cases h1
          subst h2
          have hend := hE.below hbw2
          have gHA := Lib.hid HA
          have gHB := Lib.hid HB
          have gHR := Lib.hid HR
          have gHS := Lib.hid HS
          have ghend := Lib.hid hend
          have ghbw2 := Lib.hid hbw2
          clear hend hE
          replace hzW1 := Lib.hid hzW1
          go_wp2_with fail
          go_meet
          exact ⟨gHA.out, gHB.out, gHR.out, by have := gHS.out; simpa using this, ghbw2.out, ghend.out⟩
        | false =>
          cases nc with
          | true =>
            replace hzW1 := hzW1.out
            obtain ⟨W2, hW2⟩ : ∃ W2, W2 = ((((w2.setCell ⟨w.heap.size + 1 + 1 + 1, 5, none⟩ (.int .u8 (td : Int))).setCell ⟨w.heap.size + 1 + 1 + 1, 6, none⟩ (.bool false)).setCell ⟨w.heap.size + 1 + 1 + 1, 7, none⟩ (.int .i64 id)).setCell ⟨w.heap.size + 1 + 1 + 1, 8, none⟩ (.string xd)).setCell ⟨w.heap.size + 1 + 1 + 1, 9, none⟩ (.bool bd) := ⟨_, rfl⟩
            replace HA : Has W2 (w.heap.size) [.int .u8 (ta : Int), .bool na, .int .i64 ia, .string xa, .bool ba, .int .u8 (tc : Int), .bool true, .int .i64 ic, .string xc, .bool bc, .bool ea] 92 := by rw [hW2]; exact (((((HA.set_ne (a := ⟨w.heap.size + 1 + 1 + 1, 5, none⟩) (by first | (simp; done) | (simp; omega) | omega) _).set_ne (a := ⟨w.heap.size + 1 + 1 + 1, 6, none⟩) (by first | (simp; done) | (simp; omega) | omega) _).set_ne (a := ⟨w.heap.size + 1 + 1 + 1, 7, none⟩) (by first | (simp; done) | (simp; omega) | omega) _).set_ne (a := ⟨w.heap.size + 1 + 1 + 1, 8, none⟩) (by first | (simp; done) | (simp; omega) | omega) _).set_ne (a := ⟨w.heap.size + 1 + 1 + 1, 9, none⟩) (by first | (simp; done) | (simp; omega) | omega) _)
            replace HB : Has W2 (w.heap.size + 1) [.int .u8 (tb : Int), .bool nb, .int .i64 ib, .string xb, .bool bb, .int .u8 (td : Int), .bool false, .int .i64 id, .string xd, .bool bd, .bool eb] 92 := by rw [hW2]; exact (((((HB.set_ne (a := ⟨w.heap.size + 1 + 1 + 1, 5, none⟩) (by first | (simp; done) | (simp; omega) | omega) _).set_ne (a := ⟨w.heap.size + 1 + 1 + 1, 6, none⟩) (by first | (simp; done) | (simp; omega) | omega) _).set_ne (a := ⟨w.heap.size + 1 + 1 + 1, 7, none⟩) (by first | (simp; done) | (simp; omega) | omega) _).set_ne (a := ⟨w.heap.size + 1 + 1 + 1, 8, none⟩) (by first | (simp; done) | (simp; omega) | omega) _).set_ne (a := ⟨w.heap.size + 1 + 1 + 1, 9, none⟩) (by first | (simp; done) | (simp; omega) | omega) _)
            replace HR : Has W2 (w.heap.size + 1 + 1) [.int .u8 0, .bool false, .int .i64 0, .string ⟨#[]⟩, .bool false, .int .u8 0, .bool false, .int .i64 0, .string ⟨#[]⟩, .bool false, .bool false] 92 := by rw [hW2]; exact (((((HR.set_ne (a := ⟨w.heap.size + 1 + 1 + 1, 5, none⟩) (by first | (simp; done) | (simp; omega) | omega) _).set_ne (a := ⟨w.heap.size + 1 + 1 + 1, 6, none⟩) (by first | (simp; done) | (simp; omega) | omega) _).set_ne (a := ⟨w.heap.size + 1 + 1 + 1, 7, none⟩) (by first | (simp; done) | (simp; omega) | omega) _).set_ne (a := ⟨w.heap.size + 1 + 1 + 1, 8, none⟩) (by first | (simp; done) | (simp; omega) | omega) _).set_ne (a := ⟨w.heap.size + 1 + 1 + 1, 9, none⟩) (by first | (simp; done) | (simp; omega) | omega) _)
            replace HS : Has W2 (w.heap.size + 1 + 1 + 1) [.int .u8 (tl : Int), .bool nl, .int .i64 il, .string xl, .bool bl, .int .u8 (td : Int), .bool false, .int .i64 id, .string xd, .bool bd, .bool (ea && eb && o1)] 92 := by rw [hW2]; exact (((((HS.set 5 (.int .u8 (td : Int))).set 6 (.bool false)).set 7 (.int .i64 id)).set 8 (.string xd)).set 9 (.bool bd))
            have hbW2 : Below w.heap.size w W2 := by rw [hW2]; exact (((((hbw2.setCell (p := ⟨w.heap.size + 1 + 1 + 1, 5, none⟩) (by first | exact Nat.le_refl _ | (simp; omega) | omega) _).setCell (p := ⟨w.heap.size + 1 + 1 + 1, 6, none⟩) (by first | exact Nat.le_refl _ | (simp; omega) | omega) _).setCell (p := ⟨w.heap.size + 1 + 1 + 1, 7, none⟩) (by first | exact Nat.le_refl _ | (simp; omega) | omega) _).setCell (p := ⟨w.heap.size + 1 + 1 + 1, 8, none⟩) (by first | exact Nat.le_refl _ | (simp; omega) | omega) _).setCell (p := ⟨w.heap.size + 1 + 1 + 1, 9, none⟩) (by first | exact Nat.le_refl _ | (simp; omega) | omega) _)
            have hzW2 : W2.heap.size = w2.heap.size := by rw [hW2]; simp
            replace hW2 := Lib.hid hW2
            have h1 := hhi.out
            have h2 := ho2.out
            simp only [if_true, Bool.false_eq_true, if_false, Bool.true_or, Bool.or_true, Bool.false_or, Bool.or_false] at h1 h2
            cases h1
            subst h2
            have hend := hE.below hbW2
            have gHA := Lib.hid HA
            have gHB := Lib.hid HB
            have gHR := Lib.hid HR
            have gHS := Lib.hid HS
            have ghend := Lib.hid hend
            have ghbW2 := Lib.hid hbW2
            clear hend hE
            replace hzW1 := Lib.hid hzW1
            replace hzW2 := Lib.hid hzW2
            go_wp2_with fail
            go_meet
            rw [show ((((w2.setCell ⟨w.heap.size + 1 + 1 + 1, 5, none⟩ (.int .u8 (td : Int))).setCell ⟨w.heap.size + 1 + 1 + 1, 6, none⟩ (.bool false)).setCell ⟨w.heap.size + 1 + 1 + 1, 7, none⟩ (.int .i64 id)).setCell ⟨w.heap.size + 1 + 1 + 1, 8, none⟩ (.string xd)).setCell ⟨w.heap.size + 1 + 1 + 1, 9, none⟩ (.bool bd) = W2 from hW2.out.symm]
            exact ⟨gHA.out, gHB.out, gHR.out, by have := gHS.out; simpa using this, ghbW2.out, ghend.out⟩
          | false =>
            by_cases he : e2 = 0
            · subst he
              by_cases hl : c2 > 0
              · replace hzW1 := hzW1.out
                have hd : decide ((0 : Int) < c2) = true := decide_eq_true hl
                have hd0 : (((0 : Nat) : Int) != 0) = false := rfl
                obtain ⟨W2, hW2⟩ : ∃ W2, W2 = ((((w2.setCell ⟨w.heap.size + 1 + 1 + 1, 5, none⟩ (.int .u8 (td : Int))).setCell ⟨w.heap.size + 1 + 1 + 1, 6, none⟩ (.bool false)).setCell ⟨w.heap.size + 1 + 1 + 1, 7, none⟩ (.int .i64 id)).setCell ⟨w.heap.size + 1 + 1 + 1, 8, none⟩ (.string xd)).setCell ⟨w.heap.size + 1 + 1 + 1, 9, none⟩ (.bool bd) := ⟨_, rfl⟩
                replace HA : Has W2 (w.heap.size) [.int .u8 (ta : Int), .bool na, .int .i64 ia, .string xa, .bool ba, .int .u8 (tc : Int), .bool false, .int .i64 ic, .string xc, .bool bc, .bool ea] 92 := by rw [hW2]; exact (((((HA.set_ne (a := ⟨w.heap.size + 1 + 1 + 1, 5, none⟩) (by first | (simp; done) | (simp; omega) | omega) _).set_ne (a := ⟨w.heap.size + 1 + 1 + 1, 6, none⟩) (by first | (simp; done) | (simp; omega) | omega) _).set_ne (a := ⟨w.heap.size + 1 + 1 + 1, 7, none⟩) (by first | (simp; done) | (simp; omega) | omega) _).set_ne (a := ⟨w.heap.size + 1 + 1 + 1, 8, none⟩) (by first | (simp; done) | (simp; omega) | omega) _).set_ne (a := ⟨w.heap.size + 1 + 1 + 1, 9, none⟩) (by first | (simp; done) | (simp; omega) | omega) _)
                replace HB : Has W2 (w.heap.size + 1) [.int .u8 (tb : Int), .bool nb, .int .i64 ib, .string xb, .bool bb, .int .u8 (td : Int), .bool false, .int .i64 id, .string xd, .bool bd, .bool eb] 92 := by rw [hW2]; exact (((((HB.set_ne (a := ⟨w.heap.size + 1 + 1 + 1, 5, none⟩) (by first | (simp; done) | (simp; omega) | omega) _).set_ne (a := ⟨w.heap.size + 1 + 1 + 1, 6, none⟩) (by first | (simp; done) | (simp; omega) | omega) _).set_ne (a := ⟨w.heap.size + 1 + 1 + 1, 7, none⟩) (by first | (simp; done) | (simp; omega) | omega) _).set_ne (a := ⟨w.heap.size + 1 + 1 + 1, 8, none⟩) (by first | (simp; done) | (simp; omega) | omega) _).set_ne (a := ⟨w.heap.size + 1 + 1 + 1, 9, none⟩) (by first | (simp; done) | (simp; omega) | omega) _)
                replace HR : Has W2 (w.heap.size + 1 + 1) [.int .u8 0, .bool false, .int .i64 0, .string ⟨#[]⟩, .bool false, .int .u8 0, .bool false, .int .i64 0, .string ⟨#[]⟩, .bool false, .bool false] 92 := by rw [hW2]; exact (((((HR.set_ne (a := ⟨w.heap.size + 1 + 1 + 1, 5, none⟩) (by first | (simp; done) | (simp; omega) | omega) _).set_ne (a := ⟨w.heap.size + 1 + 1 + 1, 6, none⟩) (by first | (simp; done) | (simp; omega) | omega) _).set_ne (a := ⟨w.heap.size + 1 + 1 + 1, 7, none⟩) (by first | (simp; done) | (simp; omega) | omega) _).set_ne (a := ⟨w.heap.size + 1 + 1 + 1, 8, none⟩) (by first | (simp; done) | (simp; omega) | omega) _).set_ne (a := ⟨w.heap.size + 1 + 1 + 1, 9, none⟩) (by first | (simp; done) | (simp; omega) | omega) _)
                replace HS : Has W2 (w.heap.size + 1 + 1 + 1) [.int .u8 (tl : Int), .bool nl, .int .i64 il, .string xl, .bool bl, .int .u8 (td : Int), .bool false, .int .i64 id, .string xd, .bool bd, .bool (ea && eb && o1)] 92 := by rw [hW2]; exact (((((HS.set 5 (.int .u8 (td : Int))).set 6 (.bool false)).set 7 (.int .i64 id)).set 8 (.string xd)).set 9 (.bool bd))
                have hbW2 : Below w.heap.size w W2 := by rw [hW2]; exact (((((hbw2.setCell (p := ⟨w.heap.size + 1 + 1 + 1, 5, none⟩) (by first | exact Nat.le_refl _ | (simp; omega) | omega) _).setCell (p := ⟨w.heap.size + 1 + 1 + 1, 6, none⟩) (by first | exact Nat.le_refl _ | (simp; omega) | omega) _).setCell (p := ⟨w.heap.size + 1 + 1 + 1, 7, none⟩) (by first | exact Nat.le_refl _ | (simp; omega) | omega) _).setCell (p := ⟨w.heap.size + 1 + 1 + 1, 8, none⟩) (by first | exact Nat.le_refl _ | (simp; omega) | omega) _).setCell (p := ⟨w.heap.size + 1 + 1 + 1, 9, none⟩) (by first | exact Nat.le_refl _ | (simp; omega) | omega) _)
                have hzW2 : W2.heap.size = w2.heap.size := by rw [hW2]; simp
                replace hW2 := Lib.hid hW2
                have h1 := hhi.out
                have h2 := ho2.out
                simp only [if_true, Bool.false_eq_true, if_false, Bool.true_or, Bool.or_true, Bool.false_or, Bool.or_false, ne_eq, not_true_eq_false, hl, decide_true] at h1 h2
                cases h1
                subst h2
                have hend := hE.below hbW2
                have gHA := Lib.hid HA
                have gHB := Lib.hid HB
                have gHR := Lib.hid HR
                have gHS := Lib.hid HS
                have ghend := Lib.hid hend
                have ghbW2 := Lib.hid hbW2
                clear hend hE
                replace hzW1 := Lib.hid hzW1
                replace hzW2 := Lib.hid hzW2
                go_wp2_with fail
                go_meet
                rw [show ((((w2.setCell ⟨w.heap.size + 1 + 1 + 1, 5, none⟩ (.int .u8 (td : Int))).setCell ⟨w.heap.size + 1 + 1 + 1, 6, none⟩ (.bool false)).setCell ⟨w.heap.size + 1 + 1 + 1, 7, none⟩ (.int .i64 id)).setCell ⟨w.heap.size + 1 + 1 + 1, 8, none⟩ (.string xd)).setCell ⟨w.heap.size + 1 + 1 + 1, 9, none⟩ (.bool bd) = W2 from hW2.out.symm]
                exact ⟨gHA.out, gHB.out, gHR.out, by have := gHS.out; simpa using this, ghbW2.out, ghend.out⟩
              · replace hzW1 := hzW1.out
                have hd : decide ((0 : Int) < c2) = false := decide_eq_false hl
                have hd0 : (((0 : Nat) : Int) != 0) = false := rfl
                have h1 := hhi.out
                have h2 := ho2.out
                simp only [if_true, Bool.false_eq_true, if_false, Bool.true_or, Bool.or_true, Bool.false_or, Bool.or_false, ne_eq, not_true_eq_false, hl, decide_true] at h1 h2
                cases h1
                subst h2
                have hend := hE.below hbw2
                have gHA := Lib.hid HA
                have gHB := Lib.hid HB
                have gHR := Lib.hid HR
                have gHS := Lib.hid HS
                have ghend := Lib.hid hend
                have ghbw2 := Lib.hid hbw2
                clear hend hE
                replace hzW1 := Lib.hid hzW1
                go_wp2_with fail
                go_meet
                exact ⟨gHA.out, gHB.out, gHR.out, by have := gHS.out; simpa using this, ghbw2.out, ghend.out⟩
            · replace hzW1 := hzW1.out
              have hd0 : ((e2 : Int) != 0) = true := by simpa using he
              obtain ⟨W2, hW2⟩ : ∃ W2, W2 = w2.setCell ⟨w.heap.size + 1 + 1 + 1, 10, none⟩ (.bool false) := ⟨_, rfl⟩
              replace HA : Has W2 (w.heap.size) [.int .u8 (ta : Int), .bool na, .int .i64 ia, .string xa, .bool ba, .int .u8 (tc : Int), .bool false, .int .i64 ic, .string xc, .bool bc, .bool ea] 92 := by rw [hW2]; exact (HA.set_ne (a := ⟨w.heap.size + 1 + 1 + 1, 10, none⟩) (by first | (simp; done) | (simp; omega) | omega) _)
              replace HB : Has W2 (w.heap.size + 1) [.int .u8 (tb : Int), .bool nb, .int .i64 ib, .string xb, .bool bb, .int .u8 (td : Int), .bool false, .int .i64 id, .string xd, .bool bd, .bool eb] 92 := by rw [hW2]; exact (HB.set_ne (a := ⟨w.heap.size + 1 + 1 + 1, 10, none⟩) (by first | (simp; done) | (simp; omega) | omega) _)
              replace HR : Has W2 (w.heap.size + 1 + 1) [.int .u8 0, .bool false, .int .i64 0, .string ⟨#[]⟩, .bool false, .int .u8 0, .bool false, .int .i64 0, .string ⟨#[]⟩, .bool false, .bool false] 92 := by rw [hW2]; exact (HR.set_ne (a := ⟨w.heap.size + 1 + 1 + 1, 10, none⟩) (by first | (simp; done) | (simp; omega) | omega) _)
              replace HS : Has W2 (w.heap.size + 1 + 1 + 1) [.int .u8 (tl : Int), .bool nl, .int .i64 il, .string xl, .bool bl, .int .u8 (tc : Int), .bool false, .int .i64 ic, .string xc, .bool bc, .bool false] 92 := by rw [hW2]; exact (HS.set 10 (.bool false))
              have hbW2 : Below w.heap.size w W2 := by rw [hW2]; exact (hbw2.setCell (p := ⟨w.heap.size + 1 + 1 + 1, 10, none⟩) (by first | exact Nat.le_refl _ | (simp; omega) | omega) _)
              have hzW2 : W2.heap.size = w2.heap.size := by rw [hW2]; simp
              replace hW2 := Lib.hid hW2
              have h1 := hhi.out
              have h2 := ho2.out
              simp only [if_true, Bool.false_eq_true, if_false, Bool.true_or, Bool.or_true, Bool.false_or, Bool.or_false, ne_eq, he, not_false_eq_true, decide_false] at h1 h2
              cases h1
              subst h2
              have hend := hE.below hbW2
              have gHA := Lib.hid HA
              have gHB := Lib.hid HB
              have gHR := Lib.hid HR
              have gHS := Lib.hid HS
              have ghend := Lib.hid hend
              have ghbW2 := Lib.hid hbW2
              clear hend hE
              replace hzW1 := Lib.hid hzW1
              replace hzW2 := Lib.hid hzW2
              go_wp2_with fail
              go_meet
              rw [show w2.setCell ⟨w.heap.size + 1 + 1 + 1, 10, none⟩ (.bool false) = W2 from hW2.out.symm]
              exact ⟨gHA.out, gHB.out, gHR.out, by have := gHS.out; simpa using this, ghbW2.out, ghend.out⟩
      case rest =>
        obtain ⟨wb, rfl⟩ : ∃ wb : World, wb = wc := ⟨_, rfl⟩
        clear HA HB HR HS hbw2
        obtain ⟨HA, HB, HR, HS, hbwb, _⟩ := hcut
        have cS0 := HS.cell (o := 0) rfl
        have cS1 := HS.cell (o := 1) rfl
        have cS2 := HS.cell (o := 2) rfl
        have cS3 := HS.cell (o := 3) rfl
        have cS4 := HS.cell (o := 4) rfl
        have cS5 := HS.cell (o := 5) rfl
        have cS6 := HS.cell (o := 6) rfl
        have cS7 := HS.cell (o := 7) rfl
        have cS8 := HS.cell (o := 8) rfl
        have cS9 := HS.cell (o := 9) rfl
        have cS10 := HS.cell (o := 10) rfl
        have cR0 := HR.cell (o := 0) rfl
        have cR1 := HR.cell (o := 1) rfl
        have cR2 := HR.cell (o := 2) rfl
        have cR3 := HR.cell (o := 3) rfl
        have cR4 := HR.cell (o := 4) rfl
        have cR5 := HR.cell (o := 5) rfl
        have cR6 := HR.cell (o := 6) rfl
        have cR7 := HR.cell (o := 7) rfl
        have cR8 := HR.cell (o := 8) rfl
        have cR9 := HR.cell (o := 9) rfl
        have cR10 := HR.cell (o := 10) rfl
        have fR0 := HR.free 0
        have fR1 := HR.free 1
        have fR2 := HR.free 2
        have fR3 := HR.free 3
        have fR4 := HR.free 4
        have fR5 := HR.free 5
        have fR6 := HR.free 6
        have fR7 := HR.free 7
        have fR8 := HR.free 8
        have fR9 := HR.free 9
        have fR10 := HR.free 10
        replace hzW1 := hzW1.out
        obtain ⟨W2, hW2⟩ : ∃ W2, W2 = ((((((((((wb.setCell ⟨w.heap.size + 1 + 1, 0, none⟩ (.int .u8 (tl : Int))).setCell ⟨w.heap.size + 1 + 1, 1, none⟩ (.bool nl)).setCell ⟨w.heap.size + 1 + 1, 2, none⟩ (.int .i64 il)).setCell ⟨w.heap.size + 1 + 1, 3, none⟩ (.string xl)).setCell ⟨w.heap.size + 1 + 1, 4, none⟩ (.bool bl)).setCell ⟨w.heap.size + 1 + 1, 5, none⟩ (.int .u8 (th : Int))).setCell ⟨w.heap.size + 1 + 1, 6, none⟩ (.bool nh)).setCell ⟨w.heap.size + 1 + 1, 7, none⟩ (.int .i64 ih)).setCell ⟨w.heap.size + 1 + 1, 8, none⟩ (.string xh)).setCell ⟨w.heap.size + 1 + 1, 9, none⟩ (.bool bh)).setCell ⟨w.heap.size + 1 + 1, 10, none⟩ (.bool (ea && eb && o1 && o2)) := ⟨_, rfl⟩
        replace HA : Has W2 (w.heap.size) [.int .u8 (ta : Int), .bool na, .int .i64 ia, .string xa, .bool ba, .int .u8 (tc : Int), .bool nc, .int .i64 ic, .string xc, .bool bc, .bool ea] 92 := by rw [hW2]; exact (((((((((((HA.set_ne (a := ⟨w.heap.size + 1 + 1, 0, none⟩) (by first | (simp; done) | (simp; omega) | omega) _).set_ne (a := ⟨w.heap.size + 1 + 1, 1, none⟩) (by first | (simp; done) | (simp; omega) | omega) _).set_ne (a := ⟨w.heap.size + 1 + 1, 2, none⟩) (by first | (simp; done) | (simp; omega) | omega) _).set_ne (a := ⟨w.heap.size + 1 + 1, 3, none⟩) (by first | (simp; done) | (simp; omega) | omega) _).set_ne (a := ⟨w.heap.size + 1 + 1, 4, none⟩) (by first | (simp; done) | (simp; omega) | omega) _).set_ne (a := ⟨w.heap.size + 1 + 1, 5, none⟩) (by first | (simp; done) | (simp; omega) | omega) _).set_ne (a := ⟨w.heap.size + 1 + 1, 6, none⟩) (by first | (simp; done) | (simp; omega) | omega) _).set_ne (a := ⟨w.heap.size + 1 + 1, 7, none⟩) (by first | (simp; done) | (simp; omega) | omega) _).set_ne (a := ⟨w.heap.size + 1 + 1, 8, none⟩) (by first | (simp; done) | (simp; omega) | omega) _).set_ne (a := ⟨w.heap.size + 1 + 1, 9, none⟩) (by first | (simp; done) | (simp; omega) | omega) _).set_ne (a := ⟨w.heap.size + 1 + 1, 10, none⟩) (by first | (simp; done) | (simp; omega) | omega) _)
        replace HB : Has W2 (w.heap.size + 1) [.int .u8 (tb : Int), .bool nb, .int .i64 ib, .string xb, .bool bb, .int .u8 (td : Int), .bool nd, .int .i64 id, .string xd, .bool bd, .bool eb] 92 := by rw [hW2]; exact (((((((((((HB.set_ne (a := ⟨w.heap.size + 1 + 1, 0, none⟩) (by first | (simp; done) | (simp; omega) | omega) _).set_ne (a := ⟨w.heap.size + 1 + 1, 1, none⟩) (by first | (simp; done) | (simp; omega) | omega) _).set_ne (a := ⟨w.heap.size + 1 + 1, 2, none⟩) (by first | (simp; done) | (simp; omega) | omega) _).set_ne (a := ⟨w.heap.size + 1 + 1, 3, none⟩) (by first | (simp; done) | (simp; omega) | omega) _).set_ne (a := ⟨w.heap.size + 1 + 1, 4, none⟩) (by first | (simp; done) | (simp; omega) | omega) _).set_ne (a := ⟨w.heap.size + 1 + 1, 5, none⟩) (by first | (simp; done) | (simp; omega) | omega) _).set_ne (a := ⟨w.heap.size + 1 + 1, 6, none⟩) (by first | (simp; done) | (simp; omega) | omega) _).set_ne (a := ⟨w.heap.size + 1 + 1, 7, none⟩) (by first | (simp; done) | (simp; omega) | omega) _).set_ne (a := ⟨w.heap.size + 1 + 1, 8, none⟩) (by first | (simp; done) | (simp; omega) | omega) _).set_ne (a := ⟨w.heap.size + 1 + 1, 9, none⟩) (by first | (simp; done) | (simp; omega) | omega) _).set_ne (a := ⟨w.heap.size + 1 + 1, 10, none⟩) (by first | (simp; done) | (simp; omega) | omega) _)
        replace HS : Has W2 (w.heap.size + 1 + 1 + 1) [.int .u8 (tl : Int), .bool nl, .int .i64 il, .string xl, .bool bl, .int .u8 (th : Int), .bool nh, .int .i64 ih, .string xh, .bool bh, .bool (ea && eb && o1 && o2)] 92 := by rw [hW2]; exact (((((((((((HS.set_ne (a := ⟨w.heap.size + 1 + 1, 0, none⟩) (by first | (simp; done) | (simp; omega) | omega) _).set_ne (a := ⟨w.heap.size + 1 + 1, 1, none⟩) (by first | (simp; done) | (simp; omega) | omega) _).set_ne (a := ⟨w.heap.size + 1 + 1, 2, none⟩) (by first | (simp; done) | (simp; omega) | omega) _).set_ne (a := ⟨w.heap.size + 1 + 1, 3, none⟩) (by first | (simp; done) | (simp; omega) | omega) _).set_ne (a := ⟨w.heap.size + 1 + 1, 4, none⟩) (by first | (simp; done) | (simp; omega) | omega) _).set_ne (a := ⟨w.heap.size + 1 + 1, 5, none⟩) (by first | (simp; done) | (simp; omega) | omega) _).set_ne (a := ⟨w.heap.size + 1 + 1, 6, none⟩) (by first | (simp; done) | (simp; omega) | omega) _).set_ne (a := ⟨w.heap.size + 1 + 1, 7, none⟩) (by first | (simp; done) | (simp; omega) | omega) _).set_ne (a := ⟨w.heap.size + 1 + 1, 8, none⟩) (by first | (simp; done) | (simp; omega) | omega) _).set_ne (a := ⟨w.heap.size + 1 + 1, 9, none⟩) (by first | (simp; done) | (simp; omega) | omega) _).set_ne (a := ⟨w.heap.size + 1 + 1, 10, none⟩) (by first | (simp; done) | (simp; omega) | omega) _)
        replace HR : Has W2 (w.heap.size + 1 + 1) [.int .u8 (tl : Int), .bool nl, .int .i64 il, .string xl, .bool bl, .int .u8 (th : Int), .bool nh, .int .i64 ih, .string xh, .bool bh, .bool (ea && eb && o1 && o2)] 92 := by rw [hW2]; exact (((((((((((HR.set 0 (.int .u8 (tl : Int))).set 1 (.bool nl)).set 2 (.int .i64 il)).set 3 (.string xl)).set 4 (.bool bl)).set 5 (.int .u8 (th : Int))).set 6 (.bool nh)).set 7 (.int .i64 ih)).set 8 (.string xh)).set 9 (.bool bh)).set 10 (.bool (ea && eb && o1 && o2)))
        have hbW2 : Below w.heap.size w W2 := by rw [hW2]; exact (((((((((((hbwb.setCell (p := ⟨w.heap.size + 1 + 1, 0, none⟩) (by first | exact Nat.le_refl _ | (simp; omega) | omega) _).setCell (p := ⟨w.heap.size + 1 + 1, 1, none⟩) (by first | exact Nat.le_refl _ | (simp; omega) | omega) _).setCell (p := ⟨w.heap.size + 1 + 1, 2, none⟩) (by first | exact Nat.le_refl _ | (simp; omega) | omega) _).setCell (p := ⟨w.heap.size + 1 + 1, 3, none⟩) (by first | exact Nat.le_refl _ | (simp; omega) | omega) _).setCell (p := ⟨w.heap.size + 1 + 1, 4, none⟩) (by first | exact Nat.le_refl _ | (simp; omega) | omega) _).setCell (p := ⟨w.heap.size + 1 + 1, 5, none⟩) (by first | exact Nat.le_refl _ | (simp; omega) | omega) _).setCell (p := ⟨w.heap.size + 1 + 1, 6, none⟩) (by first | exact Nat.le_refl _ | (simp; omega) | omega) _).setCell (p := ⟨w.heap.size + 1 + 1, 7, none⟩) (by first | exact Nat.le_refl _ | (simp; omega) | omega) _).setCell (p := ⟨w.heap.size + 1 + 1, 8, none⟩) (by first | exact Nat.le_refl _ | (simp; omega) | omega) _).setCell (p := ⟨w.heap.size + 1 + 1, 9, none⟩) (by first | exact Nat.le_refl _ | (simp; omega) | omega) _).setCell (p := ⟨w.heap.size + 1 + 1, 10, none⟩) (by first | exact Nat.le_refl _ | (simp; omega) | omega) _)
        have hzW2 : W2.heap.size = wb.heap.size := by rw [hW2]; simp
        replace hW2 := Lib.hid hW2
        have hf : post (.returned (.agg #[.int .u8 (tl : Int), .bool nl, .int .i64 il, .string xl, .bool bl, .int .u8 (th : Int), .bool nh, .int .i64 ih, .string xh, .bool bh, .bool (ea && eb && o1 && o2)])) W2 := by rw [← hpost.out, hres.out]; exact ⟨rfl, hbW2⟩
        replace hf := Lib.hid hf
        have r0 := Lib.hid (HR.cell (o := 0) rfl)
        have r1 := Lib.hid (HR.cell (o := 1) rfl)
        have r2 := Lib.hid (HR.cell (o := 2) rfl)
        have r3 := Lib.hid (HR.cell (o := 3) rfl)
        have r4 := Lib.hid (HR.cell (o := 4) rfl)
        have r5 := Lib.hid (HR.cell (o := 5) rfl)
        have r6 := Lib.hid (HR.cell (o := 6) rfl)
        have r7 := Lib.hid (HR.cell (o := 7) rfl)
        have r8 := Lib.hid (HR.cell (o := 8) rfl)
        have r9 := Lib.hid (HR.cell (o := 9) rfl)
        have r10 := Lib.hid (HR.cell (o := 10) rfl)
        replace hzW1 := Lib.hid hzW1
        replace hzW2 := Lib.hid hzW2
        go_wp2_with fail
        rw [show ((((((((((wb.setCell ⟨w.heap.size + 1 + 1, 0, none⟩ (.int .u8 (tl : Int))).setCell ⟨w.heap.size + 1 + 1, 1, none⟩ (.bool nl)).setCell ⟨w.heap.size + 1 + 1, 2, none⟩ (.int .i64 il)).setCell ⟨w.heap.size + 1 + 1, 3, none⟩ (.string xl)).setCell ⟨w.heap.size + 1 + 1, 4, none⟩ (.bool bl)).setCell ⟨w.heap.size + 1 + 1, 5, none⟩ (.int .u8 (th : Int))).setCell ⟨w.heap.size + 1 + 1, 6, none⟩ (.bool nh)).setCell ⟨w.heap.size + 1 + 1, 7, none⟩ (.int .i64 ih)).setCell ⟨w.heap.size + 1 + 1, 8, none⟩ (.string xh)).setCell ⟨w.heap.size + 1 + 1, 9, none⟩ (.bool bh)).setCell ⟨w.heap.size + 1 + 1, 10, none⟩ (.bool (ea && eb && o1 && o2)) = W2 from hW2.out.symm]
        exact bodyPost_ret (v := .agg #[.int .u8 (tl : Int), .bool nl, .int .i64 il, .string xl, .bool bl, .int .u8 (th : Int), .bool nh, .int .i64 ih, .string xh, .bool bh, .bool (ea && eb && o1 && o2)]) (by simp [results, Tryz.results55, go_sem, r0.out, r1.out, r2.out, r3.out, r4.out, r5.out, r6.out, r7.out, r8.out, r9.out, r10.out]) rfl hf.out
end Go.Proofs.YtgnoikfmhncbmaaGreatDoor
