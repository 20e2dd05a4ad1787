/- Walks: either of the program. -/
import Derived.Test.YtgnoikfmhncbmaaGreatDoorB3
import Derived.Deep.CutBlock
set_option linter.unusedVariables false
set_option linter.unusedSimpArgs false
namespace Go.Proofs.YtgnoikfmhncbmaaGreatDoor
open Go.RowKit Go.Lib
set_option maxHeartbeats 4000000 in
theorem either_any (a b : Sp) (ha : a.Bd) (hb : b.Bd) (w : World) (hE : Env w) : Calls Tryz.prog 56 #[a.val, b.val] w (RPost w (eitherP a b).val) := by
  have hc1 := fun w hE => cmp_c a.lo b.lo ha.1.2.1 hb.1.2.1 w hE
  have hc2 := fun w hE => cmp_c a.hi b.hi ha.2.2.1 hb.2.2.1 w hE
  have hu : ∀ w : World, Calls Tryz.prog 28 #[.bool false] w (RPost w (.agg #[.int .u8 0, .bool true, .int .i64 0, .string ⟨#[]⟩, .bool false, .int .u8 0, .bool true, .int .i64 0, .string ⟨#[]⟩, .bool false, .bool false])) := unb_any false
  have hlo : lowO a.lo b.lo = if a.lo.nl || b.lo.nl then RVN else if cmpE a.lo b.lo = 0 then (if cmpX a.lo b.lo > 0 then b.lo else a.lo) else RVN := rfl
  have hhi : highO a.hi b.hi = if a.hi.nl || b.hi.nl then RVN else if cmpE a.hi b.hi = 0 then (if cmpX a.hi b.hi < 0 then b.hi else a.hi) else RVN := rfl
  have hres : eitherP a b = ⟨lowO a.lo b.lo, highO a.hi b.hi, false⟩ := rfl
  obtain ⟨⟨ta, na, ia, xa, ba⟩, ⟨tc, nc, ic, xc, bc⟩, ea⟩ := a
  obtain ⟨⟨tb, nb, ib, xb, bb⟩, ⟨td, nd, id, xd, bd⟩, eb⟩ := b
  dsimp only [RV.val] at hc1 hc2
  dsimp only at hlo hhi hres
  generalize eitherP ⟨⟨ta, na, ia, xa, ba⟩, ⟨tc, nc, ic, xc, bc⟩, ea⟩ ⟨⟨tb, nb, ib, xb, bb⟩, ⟨td, nd, id, xd, bd⟩, eb⟩ = rs at *
  generalize hpost : RPost w rs.val = post
  replace hpost := Lib.hid hpost
  generalize cmpX ⟨ta, na, ia, xa, ba⟩ ⟨tb, nb, ib, xb, bb⟩ = c1 at *
  generalize cmpE ⟨ta, na, ia, xa, ba⟩ ⟨tb, nb, ib, xb, bb⟩ = e1 at *
  generalize cmpX ⟨tc, nc, ic, xc, bc⟩ ⟨td, nd, id, xd, bd⟩ = c2 at *
  generalize cmpE ⟨tc, nc, ic, xc, bc⟩ ⟨td, nd, id, xd, bd⟩ = e2 at *
  generalize lowO ⟨ta, na, ia, xa, ba⟩ ⟨tb, nb, ib, xb, bb⟩ = l1 at *
  generalize highO ⟨tc, nc, ic, xc, bc⟩ ⟨td, nd, id, xd, bd⟩ = l2 at *
  obtain ⟨tl, nl, il, xl, bl⟩ := l1
  obtain ⟨th, nh, ih, xh, bh⟩ := l2
  unfold RVN at hlo hhi
  replace hc1 := Lib.hid hc1
  replace hc2 := Lib.hid hc2
  replace hu := Lib.hid hu
  replace hlo := Lib.hid hlo
  replace hhi := Lib.hid hhi
  replace hres := Lib.hid hres
  clear ha hb
  obtain ⟨W1, hW1⟩ : ∃ W1, W1 = ((w.alloc (.cells #[.int .u8 (ta : Int), .bool na, .int .i64 ia, .string xa, .bool ba, .int .u8 (tc : Int), .bool nc, .int .i64 ic, .string xc, .bool bc, .bool ea] 92)).alloc (.cells #[.int .u8 (tb : Int), .bool nb, .int .i64 ib, .string xb, .bool bb, .int .u8 (td : Int), .bool nd, .int .i64 id, .string xd, .bool bd, .bool eb] 92)).alloc (.cells #[.int .u8 0, .bool false, .int .i64 0, .string ⟨#[]⟩, .bool false, .int .u8 0, .bool false, .int .i64 0, .string ⟨#[]⟩, .bool false, .bool false] 92) := ⟨_, rfl⟩
  have HA : Has W1 (w.heap.size) [.int .u8 (ta : Int), .bool na, .int .i64 ia, .string xa, .bool ba, .int .u8 (tc : Int), .bool nc, .int .i64 ic, .string xc, .bool bc, .bool ea] 92 := by
    rw [hW1]; have h := Has.new (w) [.int .u8 (ta : Int), .bool na, .int .i64 ia, .string xa, .bool ba, .int .u8 (tc : Int), .bool nc, .int .i64 ic, .string xc, .bool bc, .bool ea] 92; (try simp only [World.size_alloc] at h); exact ((h.alloc _).alloc _)
  have HB : Has W1 (w.heap.size + 1) [.int .u8 (tb : Int), .bool nb, .int .i64 ib, .string xb, .bool bb, .int .u8 (td : Int), .bool nd, .int .i64 id, .string xd, .bool bd, .bool eb] 92 := by
    rw [hW1]; have h := Has.new ((w.alloc (.cells #[.int .u8 (ta : Int), .bool na, .int .i64 ia, .string xa, .bool ba, .int .u8 (tc : Int), .bool nc, .int .i64 ic, .string xc, .bool bc, .bool ea] 92))) [.int .u8 (tb : Int), .bool nb, .int .i64 ib, .string xb, .bool bb, .int .u8 (td : Int), .bool nd, .int .i64 id, .string xd, .bool bd, .bool eb] 92; (try simp only [World.size_alloc] at h); exact (h.alloc _)
  have HR : Has W1 (w.heap.size + 1 + 1) [.int .u8 0, .bool false, .int .i64 0, .string ⟨#[]⟩, .bool false, .int .u8 0, .bool false, .int .i64 0, .string ⟨#[]⟩, .bool false, .bool false] 92 := by
    rw [hW1]; have h := Has.new (((w.alloc (.cells #[.int .u8 (ta : Int), .bool na, .int .i64 ia, .string xa, .bool ba, .int .u8 (tc : Int), .bool nc, .int .i64 ic, .string xc, .bool bc, .bool ea] 92)).alloc (.cells #[.int .u8 (tb : Int), .bool nb, .int .i64 ib, .string xb, .bool bb, .int .u8 (td : Int), .bool nd, .int .i64 id, .string xd, .bool bd, .bool eb] 92))) [.int .u8 0, .bool false, .int .i64 0, .string ⟨#[]⟩, .bool false, .int .u8 0, .bool false, .int .i64 0, .string ⟨#[]⟩, .bool false, .bool false] 92; (try simp only [World.size_alloc] at h); exact h
  have hbW1 : Below w.heap.size w W1 := by rw [hW1]; exact ((((Below.refl _ _).alloc (by first | exact Nat.le_refl _ | (simp only [World.size_alloc]; omega)) _).alloc (by first | exact Nat.le_refl _ | (simp only [World.size_alloc]; omega)) _).alloc (by first | exact Nat.le_refl _ | (simp only [World.size_alloc]; omega)) _)
  have hzW1 : W1.heap.size = w.heap.size + 3 := by rw [hW1]; simp
  replace hW1 := Lib.hid hW1
  unfold Sp.val Sp.cells RV.cells
  simp only [List.cons_append, List.nil_append]
  go_enter Tryz.func56, Tryz.ntmps56
  replace hzW1 := Lib.hid hzW1
  go_wp2_with fail
  replace hzW1 := hzW1.out
  rw [show ((w.alloc (.cells #[.int .u8 (ta : Int), .bool na, .int .i64 ia, .string xa, .bool ba, .int .u8 (tc : Int), .bool nc, .int .i64 ic, .string xc, .bool bc, .bool ea] 92)).alloc (.cells #[.int .u8 (tb : Int), .bool nb, .int .i64 ib, .string xb, .bool bb, .int .u8 (td : Int), .bool nd, .int .i64 id, .string xd, .bool bd, .bool eb] 92)).alloc (.cells #[.int .u8 0, .bool false, .int .i64 0, .string ⟨#[]⟩, .bool false, .int .u8 0, .bool false, .int .i64 0, .string ⟨#[]⟩, .bool false, .bool false] 92) = W1 from hW1.out.symm]
  refine (hu.out _).mono ?_
  rintro e w1 ⟨rfl, hb1⟩
  replace HA : Has w1 (w.heap.size) [.int .u8 (ta : Int), .bool na, .int .i64 ia, .string xa, .bool ba, .int .u8 (tc : Int), .bool nc, .int .i64 ic, .string xc, .bool bc, .bool ea] 92 := HA.only (Only.of_below hb1) (Nat.not_le.2 HA.lt)
  replace HB : Has w1 (w.heap.size + 1) [.int .u8 (tb : Int), .bool nb, .int .i64 ib, .string xb, .bool bb, .int .u8 (td : Int), .bool nd, .int .i64 id, .string xd, .bool bd, .bool eb] 92 := HB.only (Only.of_below hb1) (Nat.not_le.2 HB.lt)
  replace HR : Has w1 (w.heap.size + 1 + 1) [.int .u8 0, .bool false, .int .i64 0, .string ⟨#[]⟩, .bool false, .int .u8 0, .bool false, .int .i64 0, .string ⟨#[]⟩, .bool false, .bool false] 92 := HR.only (Only.of_below hb1) (Nat.not_le.2 HR.lt)
  have hbw1 : Below w.heap.size w w1 := hbW1.trans (hb1.mono hbW1.size)
  have hzw1 := hb1.size
  replace hb1 := Lib.hid hb1
  obtain ⟨W2, hW2⟩ : ∃ W2, W2 = w1.alloc (.cells #[.int .u8 0, .bool true, .int .i64 0, .string ⟨#[]⟩, .bool false, .int .u8 0, .bool true, .int .i64 0, .string ⟨#[]⟩, .bool false, .bool false] 92) := ⟨_, rfl⟩
  replace HA : Has W2 (w.heap.size) [.int .u8 (ta : Int), .bool na, .int .i64 ia, .string xa, .bool ba, .int .u8 (tc : Int), .bool nc, .int .i64 ic, .string xc, .bool bc, .bool ea] 92 := by rw [hW2]; exact (HA.alloc _)
  replace HB : Has W2 (w.heap.size + 1) [.int .u8 (tb : Int), .bool nb, .int .i64 ib, .string xb, .bool bb, .int .u8 (td : Int), .bool nd, .int .i64 id, .string xd, .bool bd, .bool eb] 92 := by rw [hW2]; exact (HB.alloc _)
  replace HR : Has W2 (w.heap.size + 1 + 1) [.int .u8 0, .bool false, .int .i64 0, .string ⟨#[]⟩, .bool false, .int .u8 0, .bool false, .int .i64 0, .string ⟨#[]⟩, .bool false, .bool false] 92 := by rw [hW2]; exact (HR.alloc _)
  have HS : Has W2 (w1.heap.size) [.int .u8 0, .bool true, .int .i64 0, .string ⟨#[]⟩, .bool false, .int .u8 0, .bool true, .int .i64 0, .string ⟨#[]⟩, .bool false, .bool false] 92 := by
    rw [hW2]; have h := Has.new (w1) [.int .u8 0, .bool true, .int .i64 0, .string ⟨#[]⟩, .bool false, .int .u8 0, .bool true, .int .i64 0, .string ⟨#[]⟩, .bool false, .bool false] 92; (try simp only [World.size_alloc] at h); exact h
  have hbW2 : Below w.heap.size w W2 := by rw [hW2]; exact (hbw1.alloc (by have := hbw1.size; (try simp only [World.size_alloc]); omega) _)
  have hzW2 : W2.heap.size = w1.heap.size + 1 := by rw [hW2]; simp
  replace hW2 := Lib.hid hW2
  have hlt0 : w.heap.size + 1 + 1 < w1.heap.size := by omega
  replace hzW1 := Lib.hid hzW1
  replace hzW2 := Lib.hid hzW2
  go_upto_region 2 with fail
  rw [show w1.alloc (.cells #[.int .u8 0, .bool true, .int .i64 0, .string ⟨#[]⟩, .bool false, .int .u8 0, .bool true, .int .i64 0, .string ⟨#[]⟩, .bool false, .bool false] 92) = W2 from hW2.out.symm]
  have cA0 := HA.cell (o := 0) rfl
  have cA1 := HA.cell (o := 1) rfl
  have cA2 := HA.cell (o := 2) rfl
  have cA3 := HA.cell (o := 3) rfl
  have cA4 := HA.cell (o := 4) rfl
  have cA5 := HA.cell (o := 5) rfl
  have cA6 := HA.cell (o := 6) rfl
  have cA7 := HA.cell (o := 7) rfl
  have cA8 := HA.cell (o := 8) rfl
  have cA9 := HA.cell (o := 9) rfl
  have cA10 := HA.cell (o := 10) rfl
  have cB0 := HB.cell (o := 0) rfl
  have cB1 := HB.cell (o := 1) rfl
  have cB2 := HB.cell (o := 2) rfl
  have cB3 := HB.cell (o := 3) rfl
  have cB4 := HB.cell (o := 4) rfl
  have cB5 := HB.cell (o := 5) rfl
  have cB6 := HB.cell (o := 6) rfl
  have cB7 := HB.cell (o := 7) rfl
  have cB8 := HB.cell (o := 8) rfl
  have cB9 := HB.cell (o := 9) rfl
  have cB10 := HB.cell (o := 10) rfl
  go_cut [20] (fun p wx => p = .bool (!na && !nb) ∧ W2 = wx)
  case first =>
    cases na <;> cases nb
    all_goals
      go_wp2_with fail
      go_meet
      exact ⟨rfl, rfl⟩
  case rest =>
    obtain ⟨rfl, rfl⟩ := hcut
    clear cA0 cA1 cA2 cA3 cA4 cA5 cA6 cA7 cA8 cA9 cA10 cB0 cB1 cB2 cB3 cB4 cB5 cB6 cB7 cB8 cB9 cB10
    go_upto_if 20 with fail
    go_cut [] (fun wx => Has wx (w.heap.size) [.int .u8 (ta : Int), .bool na, .int .i64 ia, .string xa, .bool ba, .int .u8 (tc : Int), .bool nc, .int .i64 ic, .string xc, .bool bc, .bool ea] 92 ∧ Has wx (w.heap.size + 1) [.int .u8 (tb : Int), .bool nb, .int .i64 ib, .string xb, .bool bb, .int .u8 (td : Int), .bool nd, .int .i64 id, .string xd, .bool bd, .bool eb] 92 ∧ Has wx (w.heap.size + 1 + 1) [.int .u8 0, .bool false, .int .i64 0, .string ⟨#[]⟩, .bool false, .int .u8 0, .bool false, .int .i64 0, .string ⟨#[]⟩, .bool false, .bool false] 92 ∧ Has wx (w1.heap.size) [.int .u8 (tl : Int), .bool nl, .int .i64 il, .string xl, .bool bl, .int .u8 0, .bool true, .int .i64 0, .string ⟨#[]⟩, .bool false, .bool false] 92 ∧ Below w.heap.size w wx)
    case first =>
      cases na with
      | true =>
        cases nb
        · replace hzW1 := hzW1.out
          replace hzW2 := hzW2.out
          have h1 := hlo.out
          simp only [if_true, Bool.false_eq_true, if_false, Bool.true_or, Bool.or_true, Bool.false_or, Bool.or_false, Bool.or_self] at h1
          cases h1
          have gHA := Lib.hid HA
          have gHB := Lib.hid HB
          have gHR := Lib.hid HR
          have gHS := Lib.hid HS
          have ghbW2 := Lib.hid hbW2
          replace hzW1 := Lib.hid hzW1
          replace hzW2 := Lib.hid hzW2
          go_wp2_with fail
          go_meet
          exact ⟨gHA.out, gHB.out, gHR.out, gHS.out, ghbW2.out⟩
        · replace hzW1 := hzW1.out
          replace hzW2 := hzW2.out
          have h1 := hlo.out
          simp only [if_true, Bool.false_eq_true, if_false, Bool.true_or, Bool.or_true, Bool.false_or, Bool.or_false, Bool.or_self] at h1
          cases h1
          have gHA := Lib.hid HA
          have gHB := Lib.hid HB
          have gHR := Lib.hid HR
          have gHS := Lib.hid HS
          have ghbW2 := Lib.hid hbW2
          replace hzW1 := Lib.hid hzW1
          replace hzW2 := Lib.hid hzW2
          go_wp2_with fail
          go_meet
          exact ⟨gHA.out, gHB.out, gHR.out, gHS.out, ghbW2.out⟩
      | false =>
        cases nb with
        | true =>
          replace hzW1 := hzW1.out
          replace hzW2 := hzW2.out
          have h1 := hlo.out
          simp only [if_true, Bool.false_eq_true, if_false, Bool.true_or, Bool.or_true, Bool.false_or, Bool.or_false, Bool.or_self] at h1
          cases h1
          have gHA := Lib.hid HA
          have gHB := Lib.hid HB
          have gHR := Lib.hid HR
          have gHS := Lib.hid HS
          have ghbW2 := Lib.hid hbW2
          replace hzW1 := Lib.hid hzW1
          replace hzW2 := Lib.hid hzW2
          go_wp2_with fail
          go_meet
          exact ⟨gHA.out, gHB.out, gHR.out, gHS.out, ghbW2.out⟩
        | false =>
          have cA0 := HA.cell (o := 0) rfl
          have cA1 := HA.cell (o := 1) rfl
          have cA2 := HA.cell (o := 2) rfl
          have cA3 := HA.cell (o := 3) rfl
          have cA4 := HA.cell (o := 4) rfl
          have cA5 := HA.cell (o := 5) rfl
          have cA6 := HA.cell (o := 6) rfl
          have cA7 := HA.cell (o := 7) rfl
          have cA8 := HA.cell (o := 8) rfl
          have cA9 := HA.cell (o := 9) rfl
          have cA10 := HA.cell (o := 10) rfl
          have cB0 := HB.cell (o := 0) rfl
          have cB1 := HB.cell (o := 1) rfl
          have cB2 := HB.cell (o := 2) rfl
          have cB3 := HB.cell (o := 3) rfl
          have cB4 := HB.cell (o := 4) rfl
          have cB5 := HB.cell (o := 5) rfl
          have cB6 := HB.cell (o := 6) rfl
          have cB7 := HB.cell (o := 7) rfl
          have cB8 := HB.cell (o := 8) rfl
          have cB9 := HB.cell (o := 9) rfl
          have cB10 := HB.cell (o := 10) rfl
          have hEc := hE.below hbW2
          go_wp2_with fail
          refine (hc1.out _ hEc).mono ?_
          rintro e w2 ⟨rfl, hw2⟩
          replace hzW1 := hzW1.out
          replace hzW2 := hzW2.out
          replace HA : Has w2 (w.heap.size) [.int .u8 (ta : Int), .bool false, .int .i64 ia, .string xa, .bool ba, .int .u8 (tc : Int), .bool nc, .int .i64 ic, .string xc, .bool bc, .bool ea] 92 := HA.only (Only.of_below hw2) (Nat.not_le.2 HA.lt)
          replace HB : Has w2 (w.heap.size + 1) [.int .u8 (tb : Int), .bool false, .int .i64 ib, .string xb, .bool bb, .int .u8 (td : Int), .bool nd, .int .i64 id, .string xd, .bool bd, .bool eb] 92 := HB.only (Only.of_below hw2) (Nat.not_le.2 HB.lt)
          replace HR : Has w2 (w.heap.size + 1 + 1) [.int .u8 0, .bool false, .int .i64 0, .string ⟨#[]⟩, .bool false, .int .u8 0, .bool false, .int .i64 0, .string ⟨#[]⟩, .bool false, .bool false] 92 := HR.only (Only.of_below hw2) (Nat.not_le.2 HR.lt)
          replace HS : Has w2 (w1.heap.size) [.int .u8 0, .bool true, .int .i64 0, .string ⟨#[]⟩, .bool false, .int .u8 0, .bool true, .int .i64 0, .string ⟨#[]⟩, .bool false, .bool false] 92 := HS.only (Only.of_below hw2) (Nat.not_le.2 HS.lt)
          have hbw2 : Below w.heap.size w w2 := hbW2.trans (hw2.mono hbW2.size)
          have hzw2 := hw2.size
          clear cA0 cA1 cA2 cA3 cA4 cA5 cA6 cA7 cA8 cA9 cA10 cB0 cB1 cB2 cB3 cB4 cB5 cB6 cB7 cB8 cB9 cB10
          have cA0 := HA.cell (o := 0) rfl
          have cA1 := HA.cell (o := 1) rfl
          have cA2 := HA.cell (o := 2) rfl
          have cA3 := HA.cell (o := 3) rfl
          have cA4 := HA.cell (o := 4) rfl
          have cA5 := HA.cell (o := 5) rfl
          have cA6 := HA.cell (o := 6) rfl
          have cA7 := HA.cell (o := 7) rfl
          have cA8 := HA.cell (o := 8) rfl
          have cA9 := HA.cell (o := 9) rfl
          have cA10 := HA.cell (o := 10) rfl
          have cB0 := HB.cell (o := 0) rfl
          have cB1 := HB.cell (o := 1) rfl
          have cB2 := HB.cell (o := 2) rfl
          have cB3 := HB.cell (o := 3) rfl
          have cB4 := HB.cell (o := 4) rfl
          have cB5 := HB.cell (o := 5) rfl
          have cB6 := HB.cell (o := 6) rfl
          have cB7 := HB.cell (o := 7) rfl
          have cB8 := HB.cell (o := 8) rfl
          have cB9 := HB.cell (o := 9) rfl
          have cB10 := HB.cell (o := 10) rfl
          have cS0 := HS.cell (o := 0) rfl
          have cS1 := HS.cell (o := 1) rfl
          have cS2 := HS.cell (o := 2) rfl
          have cS3 := HS.cell (o := 3) rfl
          have cS4 := HS.cell (o := 4) rfl
          have cS5 := HS.cell (o := 5) rfl
          have cS6 := HS.cell (o := 6) rfl
          have cS7 := HS.cell (o := 7) rfl
          have cS8 := HS.cell (o := 8) rfl
          have cS9 := HS.cell (o := 9) rfl
          have cS10 := HS.cell (o := 10) rfl
          have fS0 := HS.free 0
          have fS1 := HS.free 1
          have fS2 := HS.free 2
          have fS3 := HS.free 3
          have fS4 := HS.free 4
          have fS5 := HS.free 5
          have fS6 := HS.free 6
          have fS7 := HS.free 7
          have fS8 := HS.free 8
          have fS9 := HS.free 9
          have fS10 := HS.free 10
          replace hw2 := Lib.hid hw2
          by_cases he : e1 = 0
          · subst he
            by_cases hl : c1 > 0
            · have hd : decide ((0 : Int) < c1) = true := decide_eq_true hl
              have hd0 : (((0 : Nat) : Int) == 0) = true := rfl
              obtain ⟨W3, hW3⟩ : ∃ W3, W3 = ((((w2.setCell ⟨w1.heap.size, 0, none⟩ (.int .u8 (ta : Int))).setCell ⟨w1.heap.size, 1, none⟩ (.bool false)).setCell ⟨w1.heap.size, 2, none⟩ (.int .i64 ia)).setCell ⟨w1.heap.size, 3, none⟩ (.string xa)).setCell ⟨w1.heap.size, 4, none⟩ (.bool ba) := ⟨_, rfl⟩
              replace HA : Has W3 (w.heap.size) [.int .u8 (ta : Int), .bool false, .int .i64 ia, .string xa, .bool ba, .int .u8 (tc : Int), .bool nc, .int .i64 ic, .string xc, .bool bc, .bool ea] 92 := by rw [hW3]; exact (((((HA.set_ne (a := ⟨w1.heap.size, 0, none⟩) (by first | (simp; done) | (simp; omega) | omega) _).set_ne (a := ⟨w1.heap.size, 1, none⟩) (by first | (simp; done) | (simp; omega) | omega) _).set_ne (a := ⟨w1.heap.size, 2, none⟩) (by first | (simp; done) | (simp; omega) | omega) _).set_ne (a := ⟨w1.heap.size, 3, none⟩) (by first | (simp; done) | (simp; omega) | omega) _).set_ne (a := ⟨w1.heap.size, 4, none⟩) (by first | (simp; done) | (simp; omega) | omega) _)
              replace HB : Has W3 (w.heap.size + 1) [.int .u8 (tb : Int), .bool false, .int .i64 ib, .string xb, .bool bb, .int .u8 (td : Int), .bool nd, .int .i64 id, .string xd, .bool bd, .bool eb] 92 := by rw [hW3]; exact (((((HB.set_ne (a := ⟨w1.heap.size, 0, none⟩) (by first | (simp; done) | (simp; omega) | omega) _).set_ne (a := ⟨w1.heap.size, 1, none⟩) (by first | (simp; done) | (simp; omega) | omega) _).set_ne (a := ⟨w1.heap.size, 2, none⟩) (by first | (simp; done) | (simp; omega) | omega) _).set_ne (a := ⟨w1.heap.size, 3, none⟩) (by first | (simp; done) | (simp; omega) | omega) _).set_ne (a := ⟨w1.heap.size, 4, none⟩) (by first | (simp; done) | (simp; omega) | omega) _)
              replace HR : Has W3 (w.heap.size + 1 + 1) [.int .u8 0, .bool false, .int .i64 0, .string ⟨#[]⟩, .bool false, .int .u8 0, .bool false, .int .i64 0, .string ⟨#[]⟩, .bool false, .bool false] 92 := by rw [hW3]; exact (((((HR.set_ne (a := ⟨w1.heap.size, 0, none⟩) (by first | (simp; done) | (simp; omega) | omega) _).set_ne (a := ⟨w1.heap.size, 1, none⟩) (by first | (simp; done) | (simp; omega) | omega) _).set_ne (a := ⟨w1.heap.size, 2, none⟩) (by first | (simp; done) | (simp; omega) | omega) _).set_ne (a := ⟨w1.heap.size, 3, none⟩) (by first | (simp; done) | (simp; omega) | omega) _).set_ne (a := ⟨w1.heap.size, 4, none⟩) (by first | (simp; done) | (simp; omega) | omega) _)
              replace HS : Has W3 (w1.heap.size) [.int .u8 (ta : Int), .bool false, .int .i64 ia, .string xa, .bool ba, .int .u8 0, .bool true, .int .i64 0, .string ⟨#[]⟩, .bool false, .bool false] 92 := by rw [hW3]; exact (((((HS.set 0 (.int .u8 (ta : Int))).set 1 (.bool false)).set 2 (.int .i64 ia)).set 3 (.string xa)).set 4 (.bool ba))
              have hbW3 : Below w.heap.size w W3 := by rw [hW3]; exact (((((hbw2.setCell (p := ⟨w1.heap.size, 0, none⟩) (by first | exact Nat.le_refl _ | (simp; omega) | omega) _).setCell (p := ⟨w1.heap.size, 1, none⟩) (by first | exact Nat.le_refl _ | (simp; omega) | omega) _).setCell (p := ⟨w1.heap.size, 2, none⟩) (by first | exact Nat.le_refl _ | (simp; omega) | omega) _).setCell (p := ⟨w1.heap.size, 3, none⟩) (by first | exact Nat.le_refl _ | (simp; omega) | omega) _).setCell (p := ⟨w1.heap.size, 4, none⟩) (by first | exact Nat.le_refl _ | (simp; omega) | omega) _)
              have hzW3 : W3.heap.size = w2.heap.size := by rw [hW3]; simp
              replace hW3 := Lib.hid hW3
              obtain ⟨W4, hW4⟩ : ∃ W4, W4 = ((((W3.setCell ⟨w1.heap.size, 0, none⟩ (.int .u8 (tb : Int))).setCell ⟨w1.heap.size, 1, none⟩ (.bool false)).setCell ⟨w1.heap.size, 2, none⟩ (.int .i64 ib)).setCell ⟨w1.heap.size, 3, none⟩ (.string xb)).setCell ⟨w1.heap.size, 4, none⟩ (.bool bb) := ⟨_, rfl⟩
              replace HA : Has W4 (w.heap.size) [.int .u8 (ta : Int), .bool false, .int .i64 ia, .string xa, .bool ba, .int .u8 (tc : Int), .bool nc, .int .i64 ic, .string xc, .bool bc, .bool ea] 92 := by rw [hW4]; exact (((((HA.set_ne (a := ⟨w1.heap.size, 0, none⟩) (by first | (simp; done) | (simp; omega) | omega) _).set_ne (a := ⟨w1.heap.size, 1, none⟩) (by first | (simp; done) | (simp; omega) | omega) _).set_ne (a := ⟨w1.heap.size, 2, none⟩) (by first | (simp; done) | (simp; omega) | omega) _).set_ne (a := ⟨w1.heap.size, 3, none⟩) (by first | (simp; done) | (simp; omega) | omega) _).set_ne (a := ⟨w1.heap.size, 4, none⟩) (by first | (simp; done) | (simp; omega) | omega) _)
              replace HB : Has W4 (w.heap.size + 1) [.int .u8 (tb : Int), .bool false, .int .i64 ib, .string xb, .bool bb, .int .u8 (td : Int), .bool nd, .int .i64 id, .string xd, .bool bd, .bool eb] 92 := by rw [hW4]; exact (((((HB.set_ne (a := ⟨w1.heap.size, 0, none⟩) (by first | (simp; done) | (simp; omega) | omega) _).set_ne (a := ⟨w1.heap.size, 1, none⟩) (by first | (simp; done) | (simp; omega) | omega) _).set_ne (a := ⟨w1.heap.size, 2, none⟩) (by first | (simp; done) | (simp; omega) | omega) _).set_ne (a := ⟨w1.heap.size, 3, none⟩) (by first | (simp; done) | (simp; omega) | omega) _).set_ne (a := ⟨w1.heap.size, 4, none⟩) (by first | (simp; done) | (simp; omega) | omega) _)
              replace HR : Has W4 (w.heap.size + 1 + 1) [.int .u8 0, .bool false, .int .i64 0, .string ⟨#[]⟩, .bool false, .int .u8 0, .bool false, .int .i64 0, .string ⟨#[]⟩, .bool false, .bool false] 92 := by rw [hW4]; exact (((((HR.set_ne (a := ⟨w1.heap.size, 0, none⟩) (by first | (simp; done) | (simp; omega) | omega) _).set_ne (a := ⟨w1.heap.size, 1, none⟩) (by first | (simp; done) | (simp; omega) | omega) _).set_ne (a := ⟨w1.heap.size, 2, none⟩) (by first | (simp; done) | (simp; omega) | omega) _).set_ne (a := ⟨w1.heap.size, 3, none⟩) (by first | (simp; done) | (simp; omega) | omega) _).set_ne (a := ⟨w1.heap.size, 4, none⟩) (by first | (simp; done) | (simp; omega) | omega) _)
              replace HS : Has W4 (w1.heap.size) [.int .u8 (tb : Int), .bool false, .int .i64 ib, .string xb, .bool bb, .int .u8 0, .bool true, .int .i64 0, .string ⟨#[]⟩, .bool false, .bool false] 92 := by rw [hW4]; exact (((((HS.set 0 (.int .u8 (tb : Int))).set 1 (.bool false)).set 2 (.int .i64 ib)).set 3 (.string xb)).set 4 (.bool bb))
              have hbW4 : Below w.heap.size w W4 := by rw [hW4]; exact (((((hbW3.setCell (p := ⟨w1.heap.size, 0, none⟩) (by first | exact Nat.le_refl _ | (simp; omega) | omega) _).setCell (p := ⟨w1.heap.size, 1, none⟩) (by first | exact Nat.le_refl _ | (simp; omega) | omega) _).setCell (p := ⟨w1.heap.size, 2, none⟩) (by first | exact Nat.le_refl _ | (simp; omega) | omega) _).setCell (p := ⟨w1.heap.size, 3, none⟩) (by first | exact Nat.le_refl _ | (simp; omega) | omega) _).setCell (p := ⟨w1.heap.size, 4, none⟩) (by first | exact Nat.le_refl _ | (simp; omega) | omega) _)
              have hzW4 : W4.heap.size = W3.heap.size := by rw [hW4]; simp
              replace hW4 := Lib.hid hW4
              have h1 := hlo.out
              simp only [if_true, Bool.false_eq_true, if_false, Bool.true_or, Bool.or_true, Bool.false_or, Bool.or_false, Bool.or_self, hl] at h1
              cases h1
              have gHA := Lib.hid HA
              have gHB := Lib.hid HB
              have gHR := Lib.hid HR
              have gHS := Lib.hid HS
              have ghbW4 := Lib.hid hbW4
              replace hzW1 := Lib.hid hzW1
              replace hzW2 := Lib.hid hzW2
              replace hzW3 := Lib.hid hzW3
              replace hzW4 := Lib.hid hzW4
              go_wp2_with fail
              go_meet
              rw [show ((((w2.setCell ⟨w1.heap.size, 0, none⟩ (.int .u8 (ta : Int))).setCell ⟨w1.heap.size, 1, none⟩ (.bool false)).setCell ⟨w1.heap.size, 2, none⟩ (.int .i64 ia)).setCell ⟨w1.heap.size, 3, none⟩ (.string xa)).setCell ⟨w1.heap.size, 4, none⟩ (.bool ba) = W3 from hW3.out.symm]
              rw [show ((((W3.setCell ⟨w1.heap.size, 0, none⟩ (.int .u8 (tb : Int))).setCell ⟨w1.heap.size, 1, none⟩ (.bool false)).setCell ⟨w1.heap.size, 2, none⟩ (.int .i64 ib)).setCell ⟨w1.heap.size, 3, none⟩ (.string xb)).setCell ⟨w1.heap.size, 4, none⟩ (.bool bb) = W4 from hW4.out.symm]
              exact ⟨gHA.out, gHB.out, gHR.out, gHS.out, ghbW4.out⟩
            · have hd : decide ((0 : Int) < c1) = false := decide_eq_false hl
              have hd0 : (((0 : Nat) : Int) == 0) = true := rfl
              obtain ⟨W3, hW3⟩ : ∃ W3, W3 = ((((w2.setCell ⟨w1.heap.size, 0, none⟩ (.int .u8 (ta : Int))).setCell ⟨w1.heap.size, 1, none⟩ (.bool false)).setCell ⟨w1.heap.size, 2, none⟩ (.int .i64 ia)).setCell ⟨w1.heap.size, 3, none⟩ (.string xa)).setCell ⟨w1.heap.size, 4, none⟩ (.bool ba) := ⟨_, rfl⟩
              replace HA : Has W3 (w.heap.size) [.int .u8 (ta : Int), .bool false, .int .i64 ia, .string xa, .bool ba, .int .u8 (tc : Int), .bool nc, .int .i64 ic, .string xc, .bool bc, .bool ea] 92 := by rw [hW3]; exact (((((HA.set_ne (a := ⟨w1.heap.size, 0, none⟩) (by first | (simp; done) | (simp; omega) | omega) _).set_ne (a := ⟨w1.heap.size, 1, none⟩) (by first | (simp; done) | (simp; omega) | omega) _).set_ne (a := ⟨w1.heap.size, 2, none⟩) (by first | (simp; done) | (simp; omega) | omega) _).set_ne (a := ⟨w1.heap.size, 3, none⟩) (by first | (simp; done) | (simp; omega) | omega) _).set_ne (a := ⟨w1.heap.size, 4, none⟩) (by first | (simp; done) | (simp; omega) | omega) _)
              replace HB : Has W3 (w.heap.size + 1) [.int .u8 (tb : Int), .bool false, .int .i64 ib, .string xb, .bool bb, .int .u8 (td : Int), .bool nd, .int .i64 id, .string xd, .bool bd, .bool eb] 92 := by rw [hW3]; exact (((((HB.set_ne (a := ⟨w1.heap.size, 0, none⟩) (by first | (simp; done) | (simp; omega) | omega) _).set_ne (a := ⟨w1.heap.size, 1, none⟩) (by first | (simp; done) | (simp; omega) | omega) _).set_ne (a := ⟨w1.heap.size, 2, none⟩) (by first | (simp; done) | (simp; omega) | omega) _).set_ne (a := ⟨w1.heap.size, 3, none⟩) (by first | (simp; done) | (simp; omega) | omega) _).set_ne (a := ⟨w1.heap.size, 4, none⟩) (by first | (simp; done) | (simp; omega) | omega) _)
              replace HR : Has W3 (w.heap.size + 1 + 1) [.int .u8 0, .bool false, .int .i64 0, .string ⟨#[]⟩, .bool false, .int .u8 0, .bool false, .int .i64 0, .string ⟨#[]⟩, .bool false, .bool false] 92 := by rw [hW3]; exact (((((HR.set_ne (a := ⟨w1.heap.size, 0, none⟩) (by first | (simp; done) | (simp; omega) | omega) _).set_ne (a := ⟨w1.heap.size, 1, none⟩) (by first | (simp; done) | (simp; omega) | omega) _).set_ne (a := ⟨w1.heap.size, 2, none⟩) (by first | (simp; done) | (simp; omega) | omega) _).set_ne (a := ⟨w1.heap.size, 3, none⟩) (by first | (simp; done) | (simp; omega) | omega) _).set_ne (a := ⟨w1.heap.size, 4, none⟩) (by first | (simp; done) | (simp; omega) | omega) _)
              replace HS : Has W3 (w1.heap.size) [.int .u8 (ta : Int), .bool false, .int .i64 ia, .string xa, .bool ba, .int .u8 0, .bool true, .int .i64 0, .string ⟨#[]⟩, .bool false, .bool false] 92 := by rw [hW3]; exact (((((HS.set 0 (.int .u8 (ta : Int))).set 1 (.bool false)).set 2 (.int .i64 ia)).set 3 (.string xa)).set 4 (.bool ba))
              have hbW3 : Below w.heap.size w W3 := by rw [hW3]; exact (((((hbw2.setCell (p := ⟨w1.heap.size, 0, none⟩) (by first | exact Nat.le_refl _ | (simp; omega) | omega) _).setCell (p := ⟨w1.heap.size, 1, none⟩) (by first | exact Nat.le_refl _ | (simp; omega) | omega) _).setCell (p := ⟨w1.heap.size, 2, none⟩) (by first | exact Nat.le_refl _ | (simp; omega) | omega) _).setCell (p := ⟨w1.heap.size, 3, none⟩) (by first | exact Nat.le_refl _ | (simp; omega) | omega) _).setCell (p := ⟨w1.heap.size, 4, none⟩) (by first | exact Nat.le_refl _ | (simp; omega) | omega) _)
              have hzW3 : W3.heap.size = w2.heap.size := by rw [hW3]; simp
              replace hW3 := Lib.hid hW3
              have h1 := hlo.out
              simp only [if_true, Bool.false_eq_true, if_false, Bool.true_or, Bool.or_true, Bool.false_or, Bool.or_false, Bool.or_self, hl] at h1
              cases h1
              have gHA := Lib.hid HA
              have gHB := Lib.hid HB
              have gHR := Lib.hid HR
              have gHS := Lib.hid HS
              have ghbW3 := Lib.hid hbW3
              replace hzW1 := Lib.hid hzW1
              replace hzW2 := Lib.hid hzW2
              replace hzW3 := Lib.hid hzW3
              go_wp2_with fail
              go_meet
              rw [show ((((w2.setCell ⟨w1.heap.size, 0, none⟩ (.int .u8 (ta : Int))).setCell ⟨w1.heap.size, 1, none⟩ (.bool false)).setCell ⟨w1.heap.size, 2, none⟩ (.int .i64 ia)).setCell ⟨w1.heap.size, 3, none⟩ (.string xa)).setCell ⟨w1.heap.size, 4, none⟩ (.bool ba) = W3 from hW3.out.symm]
              exact ⟨gHA.out, gHB.out, gHR.out, gHS.out, ghbW3.out⟩
          · have hd0 : ((e1 : Int) == 0) = false := by simpa using he
            have h1 := hlo.out
            simp only [if_true, Bool.false_eq_true, if_false, Bool.true_or, Bool.or_true, Bool.false_or, Bool.or_false, Bool.or_self, he] at h1
            cases h1
            have gHA := Lib.hid HA
            have gHB := Lib.hid HB
            have gHR := Lib.hid HR
            have gHS := Lib.hid HS
            have ghbw2 := Lib.hid hbw2
            replace hzW1 := Lib.hid hzW1
            replace hzW2 := Lib.hid hzW2
            go_wp2_with fail
            go_meet
            exact ⟨gHA.out, gHB.out, gHR.out, gHS.out, ghbw2.out⟩
    case rest =>
      obtain ⟨wa, rfl⟩ : ∃ wa : World, wa = wc := ⟨_, rfl⟩
      clear HA HB HR HS
      obtain ⟨HA, HB, HR, HS, hbwa⟩ := hcut
      go_upto_region 8 with fail
      have cA0 := HA.cell (o := 0) rfl
      have cA1 := HA.cell (o := 1) rfl
      have cA2 := HA.cell (o := 2) rfl
      have cA3 := HA.cell (o := 3) rfl
      have cA4 := HA.cell (o := 4) rfl
      have cA5 := HA.cell (o := 5) rfl
      have cA6 := HA.cell (o := 6) rfl
      have cA7 := HA.cell (o := 7) rfl
      have cA8 := HA.cell (o := 8) rfl
      have cA9 := HA.cell (o := 9) rfl
      have cA10 := HA.cell (o := 10) rfl
      have cB0 := HB.cell (o := 0) rfl
      have cB1 := HB.cell (o := 1) rfl
      have cB2 := HB.cell (o := 2) rfl
      have cB3 := HB.cell (o := 3) rfl
      have cB4 := HB.cell (o := 4) rfl
      have cB5 := HB.cell (o := 5) rfl
      have cB6 := HB.cell (o := 6) rfl
      have cB7 := HB.cell (o := 7) rfl
      have cB8 := HB.cell (o := 8) rfl
      have cB9 := HB.cell (o := 9) rfl
      have cB10 := HB.cell (o := 10) rfl
      go_cut [48] (fun p wx => p = .bool (!nc && !nd) ∧ wa = wx)
      case first =>
        cases nc <;> cases nd
        all_goals
          go_wp2_with fail
          go_meet
          exact ⟨rfl, rfl⟩
      case rest =>
        obtain ⟨rfl, rfl⟩ := hcut
        clear cA0 cA1 cA2 cA3 cA4 cA5 cA6 cA7 cA8 cA9 cA10 cB0 cB1 cB2 cB3 cB4 cB5 cB6 cB7 cB8 cB9 cB10
        go_upto_if 48 with fail
        go_cut [] (fun wx => Has wx (w.heap.size) [.int .u8 (ta : Int), .bool na, .int .i64 ia, .string xa, .bool ba, .int .u8 (tc : Int), .bool nc, .int .i64 ic, .string xc, .bool bc, .bool ea] 92 ∧ Has wx (w.heap.size + 1) [.int .u8 (tb : Int), .bool nb, .int .i64 ib, .string xb, .bool bb, .int .u8 (td : Int), .bool nd, .int .i64 id, .string xd, .bool bd, .bool eb] 92 ∧ Has wx (w.heap.size + 1 + 1) [.int .u8 0, .bool false, .int .i64 0, .string ⟨#[]⟩, .bool false, .int .u8 0, .bool false, .int .i64 0, .string ⟨#[]⟩, .bool false, .bool false] 92 ∧ Has wx (w1.heap.size) [.int .u8 (tl : Int), .bool nl, .int .i64 il, .string xl, .bool bl, .int .u8 (th : Int), .bool nh, .int .i64 ih, .string xh, .bool bh, .bool false] 92 ∧ Below w.heap.size w wx)
        case first =>
          cases nc with
          | true =>
            cases nd
            · replace hzW1 := hzW1.out
              replace hzW2 := hzW2.out
              have h1 := hhi.out
              simp only [if_true, Bool.false_eq_true, if_false, Bool.true_or, Bool.or_true, Bool.false_or, Bool.or_false, Bool.or_self] at h1
              cases h1
              have gHA := Lib.hid HA
              have gHB := Lib.hid HB
              have gHR := Lib.hid HR
              have gHS := Lib.hid HS
              have ghbwa := Lib.hid hbwa
              replace hzW1 := Lib.hid hzW1
              replace hzW2 := Lib.hid hzW2
              go_wp2_with fail
              go_meet
              exact ⟨gHA.out, gHB.out, gHR.out, gHS.out, ghbwa.out⟩
            · replace hzW1 := hzW1.out
              replace hzW2 := hzW2.out
              have h1 := hhi.out
              simp only [if_true, Bool.false_eq_true, if_false, Bool.true_or, Bool.or_true, Bool.false_or, Bool.or_false, Bool.or_self] at h1
              cases h1
              have gHA := Lib.hid HA
              have gHB := Lib.hid HB
              have gHR := Lib.hid HR
              have gHS := Lib.hid HS
              have ghbwa := Lib.hid hbwa
              replace hzW1 := Lib.hid hzW1
              replace hzW2 := Lib.hid hzW2
              go_wp2_with fail
              go_meet
              exact ⟨gHA.out, gHB.out, gHR.out, gHS.out, ghbwa.out⟩
          | false =>
            cases nd with
            | true =>
              replace hzW1 := hzW1.out
              replace hzW2 := hzW2.out
              have h1 := hhi.out
              simp only [if_true, Bool.false_eq_true, if_false, Bool.true_or, Bool.or_true, Bool.false_or, Bool.or_false, Bool.or_self] at h1
              cases h1
              have gHA := Lib.hid HA
              have gHB := Lib.hid HB
              have gHR := Lib.hid HR
              have gHS := Lib.hid HS
              have ghbwa := Lib.hid hbwa
              replace hzW1 := Lib.hid hzW1
              replace hzW2 := Lib.hid hzW2
              go_wp2_with fail
              go_meet
              exact ⟨gHA.out, gHB.out, gHR.out, gHS.out, ghbwa.out⟩
            | false =>
              have cA0 := HA.cell (o := 0) rfl
              have cA1 := HA.cell (o := 1) rfl
              have cA2 := HA.cell (o := 2) rfl
              have cA3 := HA.cell (o := 3) rfl
              have cA4 := HA.cell (o := 4) rfl
              have cA5 := HA.cell (o := 5) rfl
              have cA6 := HA.cell (o := 6) rfl
              have cA7 := HA.cell (o := 7) rfl
              have cA8 := HA.cell (o := 8) rfl
              have cA9 := HA.cell (o := 9) rfl
              have cA10 := HA.cell (o := 10) rfl
              have cB0 := HB.cell (o := 0) rfl
              have cB1 := HB.cell (o := 1) rfl
              have cB2 := HB.cell (o := 2) rfl
              have cB3 := HB.cell (o := 3) rfl
              have cB4 := HB.cell (o := 4) rfl
              have cB5 := HB.cell (o := 5) rfl
              have cB6 := HB.cell (o := 6) rfl
              have cB7 := HB.cell (o := 7) rfl
              have cB8 := HB.cell (o := 8) rfl
              have cB9 := HB.cell (o := 9) rfl
              have cB10 := HB.cell (o := 10) rfl
              have hEc := hE.below hbwa
              go_wp2_with fail
              refine (hc2.out _ hEc).mono ?_
              rintro e w3 ⟨rfl, hw3⟩
              replace hzW1 := hzW1.out
              replace hzW2 := hzW2.out
              replace HA : Has w3 (w.heap.size) [.int .u8 (ta : Int), .bool na, .int .i64 ia, .string xa, .bool ba, .int .u8 (tc : Int), .bool false, .int .i64 ic, .string xc, .bool bc, .bool ea] 92 := HA.only (Only.of_below hw3) (Nat.not_le.2 HA.lt)
              replace HB : Has w3 (w.heap.size + 1) [.int .u8 (tb : Int), .bool nb, .int .i64 ib, .string xb, .bool bb, .int .u8 (td : Int), .bool false, .int .i64 id, .string xd, .bool bd, .bool eb] 92 := HB.only (Only.of_below hw3) (Nat.not_le.2 HB.lt)
              replace HR : Has w3 (w.heap.size + 1 + 1) [.int .u8 0, .bool false, .int .i64 0, .string ⟨#[]⟩, .bool false, .int .u8 0, .bool false, .int .i64 0, .string ⟨#[]⟩, .bool false, .bool false] 92 := HR.only (Only.of_below hw3) (Nat.not_le.2 HR.lt)
              replace HS : Has w3 (w1.heap.size) [.int .u8 (tl : Int), .bool nl, .int .i64 il, .string xl, .bool bl, .int .u8 0, .bool true, .int .i64 0, .string ⟨#[]⟩, .bool false, .bool false] 92 := HS.only (Only.of_below hw3) (Nat.not_le.2 HS.lt)
              have hbw3 : Below w.heap.size w w3 := hbwa.trans (hw3.mono hbwa.size)
              have hzw3 := hw3.size
              clear cA0 cA1 cA2 cA3 cA4 cA5 cA6 cA7 cA8 cA9 cA10 cB0 cB1 cB2 cB3 cB4 cB5 cB6 cB7 cB8 cB9 cB10
              have cA0 := HA.cell (o := 0) rfl
              have cA1 := HA.cell (o := 1) rfl
              have cA2 := HA.cell (o := 2) rfl
              have cA3 := HA.cell (o := 3) rfl
              have cA4 := HA.cell (o := 4) rfl
              have cA5 := HA.cell (o := 5) rfl
              have cA6 := HA.cell (o := 6) rfl
              have cA7 := HA.cell (o := 7) rfl
              have cA8 := HA.cell (o := 8) rfl
              have cA9 := HA.cell (o := 9) rfl
              have cA10 := HA.cell (o := 10) rfl
              have cB0 := HB.cell (o := 0) rfl
              have cB1 := HB.cell (o := 1) rfl
              have cB2 := HB.cell (o := 2) rfl
              have cB3 := HB.cell (o := 3) rfl
              have cB4 := HB.cell (o := 4) rfl
              have cB5 := HB.cell (o := 5) rfl
              have cB6 := HB.cell (o := 6) rfl
              have cB7 := HB.cell (o := 7) rfl
              have cB8 := HB.cell (o := 8) rfl
              have cB9 := HB.cell (o := 9) rfl
              have cB10 := HB.cell (o := 10) rfl
              have cS0 := HS.cell (o := 0) rfl
              have cS1 := HS.cell (o := 1) rfl
              have cS2 := HS.cell (o := 2) rfl
              have cS3 := HS.cell (o := 3) rfl
              have cS4 := HS.cell (o := 4) rfl
              have cS5 := HS.cell (o := 5) rfl
              have cS6 := HS.cell (o := 6) rfl
              have cS7 := HS.cell (o := 7) rfl
              have cS8 := HS.cell (o := 8) rfl
              have cS9 := HS.cell (o := 9) rfl
              have cS10 := HS.cell (o := 10) rfl
              have fS0 := HS.free 0
              have fS1 := HS.free 1
              have fS2 := HS.free 2
              have fS3 := HS.free 3
              have fS4 := HS.free 4
              have fS5 := HS.free 5
              have fS6 := HS.free 6
              have fS7 := HS.free 7
              have fS8 := HS.free 8
              have fS9 := HS.free 9
              have fS10 := HS.free 10
              replace hw3 := Lib.hid hw3
              by_cases he : e2 = 0
              · subst he
                by_cases hl : c2 < 0
                · have hd : decide (c2 < 0) = true := decide_eq_true hl
                  have hd0 : (((0 : Nat) : Int) == 0) = true := rfl
                  obtain ⟨W3, hW3⟩ : ∃ W3, W3 = ((((w3.setCell ⟨w1.heap.size, 5, none⟩ (.int .u8 (tc : Int))).setCell ⟨w1.heap.size, 6, none⟩ (.bool false)).setCell ⟨w1.heap.size, 7, none⟩ (.int .i64 ic)).setCell ⟨w1.heap.size, 8, none⟩ (.string xc)).setCell ⟨w1.heap.size, 9, none⟩ (.bool bc) := ⟨_, rfl⟩
                  replace HA : Has W3 (w.heap.size) [.int .u8 (ta : Int), .bool na, .int .i64 ia, .string xa, .bool ba, .int .u8 (tc : Int), .bool false, .int .i64 ic, .string xc, .bool bc, .bool ea] 92 := by rw [hW3]; exact (((((HA.set_ne (a := ⟨w1.heap.size, 5, none⟩) (by first | (simp; done) | (simp; omega) | omega) _).set_ne (a := ⟨w1.heap.size, 6, none⟩) (by first | (simp; done) | (simp; omega) | omega) _).set_ne (a := ⟨w1.heap.size, 7, none⟩) (by first | (simp; done) | (simp; omega) | omega) _).set_ne (a := ⟨w1.heap.size, 8, none⟩) (by first | (simp; done) | (simp; omega) | omega) _).set_ne (a := ⟨w1.heap.size, 9, none⟩) (by first | (simp; done) | (simp; omega) | omega) _)
                  replace HB : Has W3 (w.heap.size + 1) [.int .u8 (tb : Int), .bool nb, .int .i64 ib, .string xb, .bool bb, .int .u8 (td : Int), .bool false, .int .i64 id, .string xd, .bool bd, .bool eb] 92 := by rw [hW3]; exact (((((HB.set_ne (a := ⟨w1.heap.size, 5, none⟩) (by first | (simp; done) | (simp; omega) | omega) _).set_ne (a := ⟨w1.heap.size, 6, none⟩) (by first | (simp; done) | (simp; omega) | omega) _).set_ne (a := ⟨w1.heap.size, 7, none⟩) (by first | (simp; done) | (simp; omega) | omega) _).set_ne (a := ⟨w1.heap.size, 8, none⟩) (by first | (simp; done) | (simp; omega) | omega) _).set_ne (a := ⟨w1.heap.size, 9, none⟩) (by first | (simp; done) | (simp; omega) | omega) _)
                  replace HR : Has W3 (w.heap.size + 1 + 1) [.int .u8 0, .bool false, .int .i64 0, .string ⟨#[]⟩, .bool false, .int .u8 0, .bool false, .int .i64 0, .string ⟨#[]⟩, .bool false, .bool false] 92 := by rw [hW3]; exact (((((HR.set_ne (a := ⟨w1.heap.size, 5, none⟩) (by first | (simp; done) | (simp; omega) | omega) _).set_ne (a := ⟨w1.heap.size, 6, none⟩) (by first | (simp; done) | (simp; omega) | omega) _).set_ne (a := ⟨w1.heap.size, 7, none⟩) (by first | (simp; done) | (simp; omega) | omega) _).set_ne (a := ⟨w1.heap.size, 8, none⟩) (by first | (simp; done) | (simp; omega) | omega) _).set_ne (a := ⟨w1.heap.size, 9, none⟩) (by first | (simp; done) | (simp; omega) | omega) _)
                  replace HS : Has W3 (w1.heap.size) [.int .u8 (tl : Int), .bool nl, .int .i64 il, .string xl, .bool bl, .int .u8 (tc : Int), .bool false, .int .i64 ic, .string xc, .bool bc, .bool false] 92 := by rw [hW3]; exact (((((HS.set 5 (.int .u8 (tc : Int))).set 6 (.bool false)).set 7 (.int .i64 ic)).set 8 (.string xc)).set 9 (.bool bc))
                  have hbW3 : Below w.heap.size w W3 := by rw [hW3]; exact (((((hbw3.setCell (p := ⟨w1.heap.size, 5, none⟩) (by first | exact Nat.le_refl _ | (simp; omega) | omega) _).setCell (p := ⟨w1.heap.size, 6, none⟩) (by first | exact Nat.le_refl _ | (simp; omega) | omega) _).setCell (p := ⟨w1.heap.size, 7, none⟩) (by first | exact Nat.le_refl _ | (simp; omega) | omega) _).setCell (p := ⟨w1.heap.size, 8, none⟩) (by first | exact Nat.le_refl _ | (simp; omega) | omega) _).setCell (p := ⟨w1.heap.size, 9, none⟩) (by first | exact Nat.le_refl _ | (simp; omega) | omega) _)
                  have hzW3 : W3.heap.size = w3.heap.size := by rw [hW3]; simp
                  replace hW3 := Lib.hid hW3
                  obtain ⟨W4, hW4⟩ : ∃ W4, W4 = ((((W3.setCell ⟨w1.heap.size, 5, none⟩ (.int .u8 (td : Int))).setCell ⟨w1.heap.size, 6, none⟩ (.bool false)).setCell ⟨w1.heap.size, 7, none⟩ (.int .i64 id)).setCell ⟨w1.heap.size, 8, none⟩ (.string xd)).setCell ⟨w1.heap.size, 9, none⟩ (.bool bd) := ⟨_, rfl⟩
                  replace HA : Has W4 (w.heap.size) [.int .u8 (ta : Int), .bool na, .int .i64 ia, .string xa, .bool ba, .int .u8 (tc : Int), .bool false, .int .i64 ic, .string xc, .bool bc, .bool ea] 92 := by rw [hW4]; exact (((((HA.set_ne (a := ⟨w1.heap.size, 5, none⟩) (by first | (simp; done) | (simp; omega) | omega) _).set_ne (a := ⟨w1.heap.size, 6, none⟩) (by first | (simp; done) | (simp; omega) | omega) _).set_ne (a := ⟨w1.heap.size, 7, none⟩) (by first | (simp; done) | (simp; omega) | omega) _).set_ne (a := ⟨w1.heap.size, 8, none⟩) (by first | (simp; done) | (simp; omega) | omega) _).set_ne (a := ⟨w1.heap.size, 9, none⟩) (by first | (simp; done) | (simp; omega) | omega) _)
                  replace HB : Has W4 (w.heap.size + 1) [.int .u8 (tb : Int), .bool nb, .int .i64 ib, .string xb, .bool bb, .int .u8 (td : Int), .bool false, .int .i64 id, .string xd, .bool bd, .bool eb] 92 := by rw [hW4]; exact (((((HB.set_ne (a := ⟨w1.heap.size, 5, none⟩) (by first | (simp; done) | (simp; omega) | omega) _).set_ne (a := ⟨w1.heap.size, 6, none⟩) (by first | (simp; done) | (simp; omega) | omega) _).set_ne (a := ⟨w1.heap.size, 7, none⟩) (by first | (simp; done) | (simp; omega) | omega) _).set_ne (a := ⟨w1.heap.size, 8, none⟩) (by first | (simp; done) | (simp; omega) | omega) _).set_ne (a := ⟨w1.heap.size, 9, none⟩) (by first | (simp; done) | (simp; omega) | omega) _)
                  replace HR : Has W4 (w.heap.size + 1 + 1) [.int .u8 0, .bool false, .int .i64 0, .string ⟨#[]⟩, .bool false, .int .u8 0, .bool false, .int .i64 0, .string ⟨#[]⟩, .bool false, .bool false] 92 := by rw [hW4]; exact (((((HR.set_ne (a := ⟨w1.heap.size, 5, none⟩) (by first | (simp; done) | (simp; omega) | omega) _).set_ne (a := ⟨w1.heap.size, 6, none⟩) (by first | (simp; done) | (simp; omega) | omega) _).set_ne (a := ⟨w1.heap.size, 7, none⟩) (by first | (simp; done) | (simp; omega) | omega) _).set_ne (a := ⟨w1.heap.size, 8, none⟩) (by first | (simp; done) | (simp; omega) | omega) _).set_ne (a := ⟨w1.heap.size, 9, none⟩) (by first | (simp; done) | (simp; omega) | omega) _)
                  replace HS : Has W4 (w1.heap.size) [.int .u8 (tl : Int), .bool nl, .int .i64 il, .string xl, .bool bl, .int .u8 (td : Int), .bool false, .int .i64 id, .string xd, .bool bd, .bool false] 92 := by rw [hW4]; exact (((((HS.set 5 (.int .u8 (td : Int))).set 6 (.bool false)).set 7 (.int .i64 id)).set 8 (.string xd)).set 9 (.bool bd))
                  have hbW4 : Below w.heap.size w W4 := by rw [hW4]; exact (((((hbW3.setCell (p := ⟨w1.heap.size, 5, none⟩) (by first | exact Nat.le_refl _ | (simp; omega) | omega) _).setCell (p := ⟨w1.heap.size, 6, none⟩) (by first | exact Nat.le_refl _ | (simp; omega) | omega) _).setCell (p := ⟨w1.heap.size, 7, none⟩) (by first | exact Nat.le_refl _ | (simp; omega) | omega) _).setCell (p := ⟨w1.heap.size, 8, none⟩) (by first | exact Nat.le_refl _ | (simp; omega) | omega) _).setCell (p := ⟨w1.heap.size, 9, none⟩) (by first | exact Nat.le_refl _ | (simp; omega) | omega) _)
                  have hzW4 : W4.heap.size = W3.heap.size := by rw [hW4]; simp
                  replace hW4 := Lib.hid hW4
                  have h1 := hhi.out
                  simp only [if_true, Bool.false_eq_true, if_false, Bool.true_or, Bool.or_true, Bool.false_or, Bool.or_false, Bool.or_self, hl] at h1
                  cases h1
                  have gHA := Lib.hid HA
                  have gHB := Lib.hid HB
                  have gHR := Lib.hid HR
                  have gHS := Lib.hid HS
                  have ghbW4 := Lib.hid hbW4
                  replace hzW1 := Lib.hid hzW1
                  replace hzW2 := Lib.hid hzW2
                  replace hzW3 := Lib.hid hzW3
                  replace hzW4 := Lib.hid hzW4
                  go_wp2_with fail
                  go_meet
                  rw [show ((((w3.setCell ⟨w1.heap.size, 5, none⟩ (.int .u8 (tc : Int))).setCell ⟨w1.heap.size, 6, none⟩ (.bool false)).setCell ⟨w1.heap.size, 7, none⟩ (.int .i64 ic)).setCell ⟨w1.heap.size, 8, none⟩ (.string xc)).setCell ⟨w1.heap.size, 9, none⟩ (.bool bc) = W3 from hW3.out.symm]
                  rw [show ((((W3.setCell ⟨w1.heap.size, 5, none⟩ (.int .u8 (td : Int))).setCell ⟨w1.heap.size, 6, none⟩ (.bool false)).setCell ⟨w1.heap.size, 7, none⟩ (.int .i64 id)).setCell ⟨w1.heap.size, 8, none⟩ (.string xd)).setCell ⟨w1.heap.size, 9, none⟩ (.bool bd) = W4 from hW4.out.symm]
                  exact ⟨gHA.out, gHB.out, gHR.out, gHS.out, ghbW4.out⟩
                · have hd : decide (c2 < 0) = false := decide_eq_false hl
                  have hd0 : (((0 : Nat) : Int) == 0) = true := rfl
                  obtain ⟨W3, hW3⟩ : ∃ W3, W3 = ((((w3.setCell ⟨w1.heap.size, 5, none⟩ (.int .u8 (tc : Int))).setCell ⟨w1.heap.size, 6, none⟩ (.bool false)).setCell ⟨w1.heap.size, 7, none⟩ (.int .i64 ic)).setCell ⟨w1.heap.size, 8, none⟩ (.string xc)).setCell ⟨w1.heap.size, 9, none⟩ (.bool bc) := ⟨_, rfl⟩
                  replace HA : Has W3 (w.heap.size) [.int .u8 (ta : Int), .bool na, .int .i64 ia, .string xa, .bool ba, .int .u8 (tc : Int), .bool false, .int .i64 ic, .string xc, .bool bc, .bool ea] 92 := by rw [hW3]; exact (((((HA.set_ne (a := ⟨w1.heap.size, 5, none⟩) (by first | (simp; done) | (simp; omega) | omega) _).set_ne (a := ⟨w1.heap.size, 6, none⟩) (by first | (simp; done) | (simp; omega) | omega) _).set_ne (a := ⟨w1.heap.size, 7, none⟩) (by first | (simp; done) | (simp; omega) | omega) _).set_ne (a := ⟨w1.heap.size, 8, none⟩) (by first | (simp; done) | (simp; omega) | omega) _).set_ne (a := ⟨w1.heap.size, 9, none⟩) (by first | (simp; done) | (simp; omega) | omega) _)
                  replace HB : Has W3 (w.heap.size + 1) [.int .u8 (tb : Int), .bool nb, .int .i64 ib, .string xb, .bool bb, .int .u8 (td : Int), .bool false, .int .i64 id, .string xd, .bool bd, .bool eb] 92 := by rw [hW3]; exact (((((HB.set_ne (a := ⟨w1.heap.size, 5, none⟩) (by first | (simp; done) | (simp; omega) | omega) _).set_ne (a := ⟨w1.heap.size, 6, none⟩) (by first | (simp; done) | (simp; omega) | omega) _).set_ne (a := ⟨w1.heap.size, 7, none⟩) (by first | (simp; done) | (simp; omega) | omega) _).set_ne (a := ⟨w1.heap.size, 8, none⟩) (by first | (simp; done) | (simp; omega) | omega) _).set_ne (a := ⟨w1.heap.size, 9, none⟩) (by first | (simp; done) | (simp; omega) | omega) _)
                  replace HR : Has W3 (w.heap.size + 1 + 1) [.int .u8 0, .bool false, .int .i64 0, .string ⟨#[]⟩, .bool false, .int .u8 0, .bool false, .int .i64 0, .string ⟨#[]⟩, .bool false, .bool false] 92 := by rw [hW3]; exact (((((HR.set_ne (a := ⟨w1.heap.size, 5, none⟩) (by first | (simp; done) | (simp; omega) | omega) _).set_ne (a := ⟨w1.heap.size, 6, none⟩) (by first | (simp; done) | (simp; omega) | omega) _).set_ne (a := ⟨w1.heap.size, 7, none⟩) (by first | (simp; done) | (simp; omega) | omega) _).set_ne (a := ⟨w1.heap.size, 8, none⟩) (by first | (simp; done) | (simp; omega) | omega) _).set_ne (a := ⟨w1.heap.size, 9, none⟩) (by first | (simp; done) | (simp; omega) | omega) _)
                  replace HS : Has W3 (w1.heap.size) [.int .u8 (tl : Int), .bool nl, .int .i64 il, .string xl, .bool bl, .int .u8 (tc : Int), .bool false, .int .i64 ic, .string xc, .bool bc, .bool false] 92 := by rw [hW3]; exact (((((HS.set 5 (.int .u8 (tc : Int))).set 6 (.bool false)).set 7 (.int .i64 ic)).set 8 (.string xc)).set 9 (.bool bc))
                  have hbW3 : Below w.heap.size w W3 := by rw [hW3]; exact (((((hbw3.setCell (p := ⟨w1.heap.size, 5, none⟩) (by first | exact Nat.le_refl _ | (simp; omega) | omega) _).setCell (p := ⟨w1.heap.size, 6, none⟩) (by first | exact Nat.le_refl _ | (simp; omega) | omega) _).setCell (p := ⟨w1.heap.size, 7, none⟩) (by first | exact Nat.le_refl _ | (simp; omega) | omega) _).setCell (p := ⟨w1.heap.size, 8, none⟩) (by first | exact Nat.le_refl _ | (simp; omega) | omega) _).setCell (p := ⟨w1.heap.size, 9, none⟩) (by first | exact Nat.le_refl _ | (simp; omega) | omega) _)
                  have hzW3 : W3.heap.size = w3.heap.size := by rw [hW3]; simp
                  replace hW3 := Lib.hid hW3
                  have h1 := hhi.out
                  simp only [if_true, Bool.false_eq_true, if_false, Bool.true_or, Bool.or_true, Bool.false_or, Bool.or_false, Bool.or_self, hl] at h1
                  cases h1
                  have gHA := Lib.hid HA
                  have gHB := Lib.hid HB
                  have gHR := Lib.hid HR
                  have gHS := Lib.hid HS
                  have ghbW3 := Lib.hid hbW3
                  replace hzW1 := Lib.hid hzW1
                  replace hzW2 := Lib.hid hzW2
                  replace hzW3 := Lib.hid hzW3
                  go_wp2_with fail
                  go_meet
                  rw [show ((((w3.setCell ⟨w1.heap.size, 5, none⟩ (.int .u8 (tc : Int))).setCell ⟨w1.heap.size, 6, none⟩ (.bool false)).setCell ⟨w1.heap.size, 7, none⟩ (.int .i64 ic)).setCell ⟨w1.heap.size, 8, none⟩ (.string xc)).setCell ⟨w1.heap.size, 9, none⟩ (.bool bc) = W3 from hW3.out.symm]
                  exact ⟨gHA.out, gHB.out, gHR.out, gHS.out, ghbW3.out⟩
              · have hd0 : ((e2 : Int) == 0) = false := by simpa using he
                have h1 := hhi.out
                simp only [if_true, Bool.false_eq_true, if_false, Bool.true_or, Bool.or_true, Bool.false_or, Bool.or_false, Bool.or_self, he] at h1
                cases h1
                have gHA := Lib.hid HA
                have gHB := Lib.hid HB
                have gHR := Lib.hid HR
                have gHS := Lib.hid HS
                have ghbw3 := Lib.hid hbw3
                replace hzW1 := Lib.hid hzW1
                replace hzW2 := Lib.hid hzW2
                go_wp2_with fail
                go_meet
                exact ⟨gHA.out, gHB.out, gHR.out, gHS.out, ghbw3.out⟩
        case rest =>
          obtain ⟨wb, rfl⟩ : ∃ wb : World, wb = wc := ⟨_, rfl⟩
          clear HA HB HR HS
          obtain ⟨HA, HB, HR, HS, hbwb⟩ := hcut
          have cS0 := HS.cell (o := 0) rfl
          have cS1 := HS.cell (o := 1) rfl
          have cS2 := HS.cell (o := 2) rfl
          have cS3 := HS.cell (o := 3) rfl
          have cS4 := HS.cell (o := 4) rfl
          have cS5 := HS.cell (o := 5) rfl
          have cS6 := HS.cell (o := 6) rfl
          have cS7 := HS.cell (o := 7) rfl
          have cS8 := HS.cell (o := 8) rfl
          have cS9 := HS.cell (o := 9) rfl
          have cS10 := HS.cell (o := 10) rfl
          have cR0 := HR.cell (o := 0) rfl
          have cR1 := HR.cell (o := 1) rfl
          have cR2 := HR.cell (o := 2) rfl
          have cR3 := HR.cell (o := 3) rfl
          have cR4 := HR.cell (o := 4) rfl
          have cR5 := HR.cell (o := 5) rfl
          have cR6 := HR.cell (o := 6) rfl
          have cR7 := HR.cell (o := 7) rfl
          have cR8 := HR.cell (o := 8) rfl
          have cR9 := HR.cell (o := 9) rfl
          have cR10 := HR.cell (o := 10) rfl
          have fR0 := HR.free 0
          have fR1 := HR.free 1
          have fR2 := HR.free 2
          have fR3 := HR.free 3
          have fR4 := HR.free 4
          have fR5 := HR.free 5
          have fR6 := HR.free 6
          have fR7 := HR.free 7
          have fR8 := HR.free 8
          have fR9 := HR.free 9
          have fR10 := HR.free 10
          replace hzW1 := hzW1.out
          replace hzW2 := hzW2.out
          obtain ⟨W3, hW3⟩ : ∃ W3, W3 = ((((((((((wb.setCell ⟨w.heap.size + 1 + 1, 0, none⟩ (.int .u8 (tl : Int))).setCell ⟨w.heap.size + 1 + 1, 1, none⟩ (.bool nl)).setCell ⟨w.heap.size + 1 + 1, 2, none⟩ (.int .i64 il)).setCell ⟨w.heap.size + 1 + 1, 3, none⟩ (.string xl)).setCell ⟨w.heap.size + 1 + 1, 4, none⟩ (.bool bl)).setCell ⟨w.heap.size + 1 + 1, 5, none⟩ (.int .u8 (th : Int))).setCell ⟨w.heap.size + 1 + 1, 6, none⟩ (.bool nh)).setCell ⟨w.heap.size + 1 + 1, 7, none⟩ (.int .i64 ih)).setCell ⟨w.heap.size + 1 + 1, 8, none⟩ (.string xh)).setCell ⟨w.heap.size + 1 + 1, 9, none⟩ (.bool bh)).setCell ⟨w.heap.size + 1 + 1, 10, none⟩ (.bool false) := ⟨_, rfl⟩
          replace HA : Has W3 (w.heap.size) [.int .u8 (ta : Int), .bool na, .int .i64 ia, .string xa, .bool ba, .int .u8 (tc : Int), .bool nc, .int .i64 ic, .string xc, .bool bc, .bool ea] 92 := by rw [hW3]; exact (((((((((((HA.set_ne (a := ⟨w.heap.size + 1 + 1, 0, none⟩) (by first | (simp; done) | (simp; omega) | omega) _).set_ne (a := ⟨w.heap.size + 1 + 1, 1, none⟩) (by first | (simp; done) | (simp; omega) | omega) _).set_ne (a := ⟨w.heap.size + 1 + 1, 2, none⟩) (by first | (simp; done) | (simp; omega) | omega) _).set_ne (a := ⟨w.heap.size + 1 + 1, 3, none⟩) (by first | (simp; done) | (simp; omega) | omega) _).set_ne (a := ⟨w.heap.size + 1 + 1, 4, none⟩) (by first | (simp; done) | (simp; omega) | omega) _).set_ne (a := ⟨w.heap.size + 1 + 1, 5, none⟩) (by first | (simp; done) | (simp; omega) | omega) _).set_ne (a := ⟨w.heap.size + 1 + 1, 6, none⟩) (by first | (simp; done) | (simp; omega) | omega) _).set_ne (a := ⟨w.heap.size + 1 + 1, 7, none⟩) (by first | (simp; done) | (simp; omega) | omega) _).set_ne (a := ⟨w.heap.size + 1 + 1, 8, none⟩) (by first | (simp; done) | (simp; omega) | omega) _).set_ne (a := ⟨w.heap.size + 1 + 1, 9, none⟩) (by first | (simp; done) | (simp; omega) | omega) _).set_ne (a := ⟨w.heap.size + 1 + 1, 10, none⟩) (by first | (simp; done) | (simp; omega) | omega) _)
          replace HB : Has W3 (w.heap.size + 1) [.int .u8 (tb : Int), .bool nb, .int .i64 ib, .string xb, .bool bb, .int .u8 (td : Int), .bool nd, .int .i64 id, .string xd, .bool bd, .bool eb] 92 := by rw [hW3]; exact (((((((((((HB.set_ne (a := ⟨w.heap.size + 1 + 1, 0, none⟩) (by first | (simp; done) | (simp; omega) | omega) _).set_ne (a := ⟨w.heap.size + 1 + 1, 1, none⟩) (by first | (simp; done) | (simp; omega) | omega) _).set_ne (a := ⟨w.heap.size + 1 + 1, 2, none⟩) (by first | (simp; done) | (simp; omega) | omega) _).set_ne (a := ⟨w.heap.size + 1 + 1, 3, none⟩) (by first | (simp; done) | (simp; omega) | omega) _).set_ne (a := ⟨w.heap.size + 1 + 1, 4, none⟩) (by first | (simp; done) | (simp; omega) | omega) _).set_ne (a := ⟨w.heap.size + 1 + 1, 5, none⟩) (by first | (simp; done) | (simp; omega) | omega) _).set_ne (a := ⟨w.heap.size + 1 + 1, 6, none⟩) (by first | (simp; done) | (simp; omega) | omega) _).set_ne (a := ⟨w.heap.size + 1 + 1, 7, none⟩) (by first | (simp; done) | (simp; omega) | omega) _).set_ne (a := ⟨w.heap.size + 1 + 1, 8, none⟩) (by first | (simp; done) | (simp; omega) | omega) _).set_ne (a := ⟨w.heap.size + 1 + 1, 9, none⟩) (by first | (simp; done) | (simp; omega) | omega) _).set_ne (a := ⟨w.heap.size + 1 + 1, 10, none⟩) (by first | (simp; done) | (simp; omega) | omega) _)
          replace HS : Has W3 (w1.heap.size) [.int .u8 (tl : Int), .bool nl, .int .i64 il, .string xl, .bool bl, .int .u8 (th : Int), .bool nh, .int .i64 ih, .string xh, .bool bh, .bool false] 92 := by rw [hW3]; exact (((((((((((HS.set_ne (a := ⟨w.heap.size + 1 + 1, 0, none⟩) (by first | (simp; done) | (simp; omega) | omega) _).set_ne (a := ⟨w.heap.size + 1 + 1, 1, none⟩) (by first | (simp; done) | (simp; omega) | omega) _).set_ne (a := ⟨w.heap.size + 1 + 1, 2, none⟩) (by first | (simp; done) | (simp; omega) | omega) _).set_ne (a := ⟨w.heap.size + 1 + 1, 3, none⟩) (by first | (simp; done) | (simp; omega) | omega) _).set_ne (a := ⟨w.heap.size + 1 + 1, 4, none⟩) (by first | (simp; done) | (simp; omega) | omega) _).set_ne (a := ⟨w.heap.size + 1 + 1, 5, none⟩) (by first | (simp; done) | (simp; omega) | omega) _).set_ne (a := ⟨w.heap.size + 1 + 1, 6, none⟩) (by first | (simp; done) | (simp; omega) | omega) _).set_ne (a := ⟨w.heap.size + 1 + 1, 7, none⟩) (by first | (simp; done) | (simp; omega) | omega) _).set_ne (a := ⟨w.heap.size + 1 + 1, 8, none⟩) (by first | (simp; done) | (simp; omega) | omega) _).set_ne (a := ⟨w.heap.size + 1 + 1, 9, none⟩) (by first | (simp; done) | (simp; omega) | omega) _).set_ne (a := ⟨w.heap.size + 1 + 1, 10, none⟩) (by first | (simp; done) | (simp; omega) | omega) _)
          replace HR : Has W3 (w.heap.size + 1 + 1) [.int .u8 (tl : Int), .bool nl, .int .i64 il, .string xl, .bool bl, .int .u8 (th : Int), .bool nh, .int .i64 ih, .string xh, .bool bh, .bool false] 92 := by rw [hW3]; exact (((((((((((HR.set 0 (.int .u8 (tl : Int))).set 1 (.bool nl)).set 2 (.int .i64 il)).set 3 (.string xl)).set 4 (.bool bl)).set 5 (.int .u8 (th : Int))).set 6 (.bool nh)).set 7 (.int .i64 ih)).set 8 (.string xh)).set 9 (.bool bh)).set 10 (.bool false))
          have hbW3 : Below w.heap.size w W3 := by rw [hW3]; exact (((((((((((hbwb.setCell (p := ⟨w.heap.size + 1 + 1, 0, none⟩) (by first | exact Nat.le_refl _ | (simp; omega) | omega) _).setCell (p := ⟨w.heap.size + 1 + 1, 1, none⟩) (by first | exact Nat.le_refl _ | (simp; omega) | omega) _).setCell (p := ⟨w.heap.size + 1 + 1, 2, none⟩) (by first | exact Nat.le_refl _ | (simp; omega) | omega) _).setCell (p := ⟨w.heap.size + 1 + 1, 3, none⟩) (by first | exact Nat.le_refl _ | (simp; omega) | omega) _).setCell (p := ⟨w.heap.size + 1 + 1, 4, none⟩) (by first | exact Nat.le_refl _ | (simp; omega) | omega) _).setCell (p := ⟨w.heap.size + 1 + 1, 5, none⟩) (by first | exact Nat.le_refl _ | (simp; omega) | omega) _).setCell (p := ⟨w.heap.size + 1 + 1, 6, none⟩) (by first | exact Nat.le_refl _ | (simp; omega) | omega) _).setCell (p := ⟨w.heap.size + 1 + 1, 7, none⟩) (by first | exact Nat.le_refl _ | (simp; omega) | omega) _).setCell (p := ⟨w.heap.size + 1 + 1, 8, none⟩) (by first | exact Nat.le_refl _ | (simp; omega) | omega) _).setCell (p := ⟨w.heap.size + 1 + 1, 9, none⟩) (by first | exact Nat.le_refl _ | (simp; omega) | omega) _).setCell (p := ⟨w.heap.size + 1 + 1, 10, none⟩) (by first | exact Nat.le_refl _ | (simp; omega) | omega) _)
          have hzW3 : W3.heap.size = wb.heap.size := by rw [hW3]; simp
          replace hW3 := Lib.hid hW3
          have hf : post (.returned (.agg #[.int .u8 (tl : Int), .bool nl, .int .i64 il, .string xl, .bool bl, .int .u8 (th : Int), .bool nh, .int .i64 ih, .string xh, .bool bh, .bool false])) W3 := by rw [← hpost.out, hres.out]; exact ⟨rfl, hbW3⟩
          replace hf := Lib.hid hf
          have r0 := Lib.hid (HR.cell (o := 0) rfl)
          have r1 := Lib.hid (HR.cell (o := 1) rfl)
          have r2 := Lib.hid (HR.cell (o := 2) rfl)
          have r3 := Lib.hid (HR.cell (o := 3) rfl)
          have r4 := Lib.hid (HR.cell (o := 4) rfl)
          have r5 := Lib.hid (HR.cell (o := 5) rfl)
          have r6 := Lib.hid (HR.cell (o := 6) rfl)
          have r7 := Lib.hid (HR.cell (o := 7) rfl)
          have r8 := Lib.hid (HR.cell (o := 8) rfl)
          have r9 := Lib.hid (HR.cell (o := 9) rfl)
          have r10 := Lib.hid (HR.cell (o := 10) rfl)
          replace hzW1 := Lib.hid hzW1
          replace hzW2 := Lib.hid hzW2
          replace hzW3 := Lib.hid hzW3
          go_wp2_with fail
          rw [show ((((((((((wb.setCell ⟨w.heap.size + 1 + 1, 0, none⟩ (.int .u8 (tl : Int))).setCell ⟨w.heap.size + 1 + 1, 1, none⟩ (.bool nl)).setCell ⟨w.heap.size + 1 + 1, 2, none⟩ (.int .i64 il)).setCell ⟨w.heap.size + 1 + 1, 3, none⟩ (.string xl)).setCell ⟨w.heap.size + 1 + 1, 4, none⟩ (.bool bl)).setCell ⟨w.heap.size + 1 + 1, 5, none⟩ (.int .u8 (th : Int))).setCell ⟨w.heap.size + 1 + 1, 6, none⟩ (.bool nh)).setCell ⟨w.heap.size + 1 + 1, 7, none⟩ (.int .i64 ih)).setCell ⟨w.heap.size + 1 + 1, 8, none⟩ (.string xh)).setCell ⟨w.heap.size + 1 + 1, 9, none⟩ (.bool bh)).setCell ⟨w.heap.size + 1 + 1, 10, none⟩ (.bool false) = W3 from hW3.out.symm]
          exact bodyPost_ret (v := .agg #[.int .u8 (tl : Int), .bool nl, .int .i64 il, .string xl, .bool bl, .int .u8 (th : Int), .bool nh, .int .i64 ih, .string xh, .bool bh, .bool false]) (by simp [results, Tryz.results56, go_sem, r0.out, r1.out, r2.out, r3.out, r4.out, r5.out, r6.out, r7.out, r8.out, r9.out, r10.out]) rfl hf.out
end Go.Proofs.YtgnoikfmhncbmaaGreatDoor
