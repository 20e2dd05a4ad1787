/- Walks: both, ordered, either of the reference. -/
import Derived.Test.YtgnoikfmhncbmaaGreatDoorB1
set_option linter.unusedVariables false
set_option linter.unusedSimpArgs false
namespace Go.Proofs.YtgnoikfmhncbmaaGreatDoor
open Go.RowKit Go.Lib
set_option maxHeartbeats 2000000 in
theorem rboth_any (a b : RV) (s : Int) (hs : s = 1 ∨ s = -1) (hsa : a.tx.size ≤ 140737488351232) (hsb : b.tx.size ≤ 140737488351232) (w : World) : Calls Tryz.prog 31 #[a.rval, b.rval, .int .i64 s] w (RPost w (bothR a b s).rval) := by
  have hc := fun w => pick_any a b s hs hsa hsb w
  have hres : bothR a b s = if a.nl then b else if b.nl then a else pickR a b s := rfl
  obtain ⟨ta, na, ia, xa, ba⟩ := a
  obtain ⟨tb, nb, ib, xb, bb⟩ := b
  generalize bothR ⟨ta, na, ia, xa, ba⟩ ⟨tb, nb, ib, xb, bb⟩ s = rs at *
  generalize hpost : RPost w rs.rval = post
  replace hpost := Lib.hid hpost
  generalize pickR ⟨ta, na, ia, xa, ba⟩ ⟨tb, nb, ib, xb, bb⟩ s = pk at *
  obtain ⟨tr, nr, ir, xr, br⟩ := pk
  dsimp only [RV.rval] at hc
  replace hres := Lib.hid hres
  replace hc := Lib.hid hc
  cases na with
  | true =>
    obtain ⟨W1, hW1⟩ : ∃ W1, W1 = ((w.alloc (.cells #[.int .i64 (ta : Int), .bool true, .int .i64 ia, .string xa, .bool ba] 33)).alloc (.cells #[.int .i64 (tb : Int), .bool nb, .int .i64 ib, .string xb, .bool bb] 33)).alloc (.cells #[.int .i64 (tb : Int), .bool nb, .int .i64 ib, .string xb, .bool bb] 33) := ⟨_, rfl⟩
    have HA : Has W1 (w.heap.size) [.int .i64 (ta : Int), .bool true, .int .i64 ia, .string xa, .bool ba] 33 := by
      rw [hW1]; have h := Has.new (w) [.int .i64 (ta : Int), .bool true, .int .i64 ia, .string xa, .bool ba] 33; (try simp only [World.size_alloc] at h); exact ((h.alloc _).alloc _)
    have HB : Has W1 (w.heap.size + 1) [.int .i64 (tb : Int), .bool nb, .int .i64 ib, .string xb, .bool bb] 33 := by
      rw [hW1]; have h := Has.new ((w.alloc (.cells #[.int .i64 (ta : Int), .bool true, .int .i64 ia, .string xa, .bool ba] 33))) [.int .i64 (tb : Int), .bool nb, .int .i64 ib, .string xb, .bool bb] 33; (try simp only [World.size_alloc] at h); exact (h.alloc _)
    have HR : Has W1 (w.heap.size + 1 + 1) [.int .i64 (tb : Int), .bool nb, .int .i64 ib, .string xb, .bool bb] 33 := by
      rw [hW1]; have h := Has.new (((w.alloc (.cells #[.int .i64 (ta : Int), .bool true, .int .i64 ia, .string xa, .bool ba] 33)).alloc (.cells #[.int .i64 (tb : Int), .bool nb, .int .i64 ib, .string xb, .bool bb] 33))) [.int .i64 (tb : Int), .bool nb, .int .i64 ib, .string xb, .bool bb] 33; (try simp only [World.size_alloc] at h); exact h
    have hbW1 : Below w.heap.size w W1 := by rw [hW1]; exact ((((Below.refl _ _).alloc (by first | exact Nat.le_refl _ | (simp only [World.size_alloc]; omega)) _).alloc (by first | exact Nat.le_refl _ | (simp only [World.size_alloc]; omega)) _).alloc (by first | exact Nat.le_refl _ | (simp only [World.size_alloc]; omega)) _)
    have hzW1 : W1.heap.size = w.heap.size + 3 := by rw [hW1]; simp
    replace hW1 := Lib.hid hW1
    have hf : post (.returned (.agg #[.int .i64 (tb : Int), .bool nb, .int .i64 ib, .string xb, .bool bb])) W1 := by rw [← hpost.out, hres.out, if_pos rfl]; exact ⟨rfl, hbW1⟩
    replace hf := Lib.hid hf
    have r0 := Lib.hid (HR.cell (o := 0) rfl)
    have r1 := Lib.hid (HR.cell (o := 1) rfl)
    have r2 := Lib.hid (HR.cell (o := 2) rfl)
    have r3 := Lib.hid (HR.cell (o := 3) rfl)
    have r4 := Lib.hid (HR.cell (o := 4) rfl)
    unfold RV.rval
    go_enter Tryz.func31, Tryz.ntmps31
    replace hzW1 := Lib.hid hzW1
    go_wp2_with fail
    rw [show ((w.alloc (.cells #[.int .i64 (ta : Int), .bool true, .int .i64 ia, .string xa, .bool ba] 33)).alloc (.cells #[.int .i64 (tb : Int), .bool nb, .int .i64 ib, .string xb, .bool bb] 33)).alloc (.cells #[.int .i64 (tb : Int), .bool nb, .int .i64 ib, .string xb, .bool bb] 33) = W1 from hW1.out.symm]
    exact bodyPost_ret (v := .agg #[.int .i64 (tb : Int), .bool nb, .int .i64 ib, .string xb, .bool bb]) (by simp [results, Tryz.results31, go_sem, r0.out, r1.out, r2.out, r3.out, r4.out]) rfl hf.out
  | false =>
    cases nb with
    | true =>
      obtain ⟨W1, hW1⟩ : ∃ W1, W1 = ((w.alloc (.cells #[.int .i64 (ta : Int), .bool false, .int .i64 ia, .string xa, .bool ba] 33)).alloc (.cells #[.int .i64 (tb : Int), .bool true, .int .i64 ib, .string xb, .bool bb] 33)).alloc (.cells #[.int .i64 (ta : Int), .bool false, .int .i64 ia, .string xa, .bool ba] 33) := ⟨_, rfl⟩
      have HA : Has W1 (w.heap.size) [.int .i64 (ta : Int), .bool false, .int .i64 ia, .string xa, .bool ba] 33 := by
        rw [hW1]; have h := Has.new (w) [.int .i64 (ta : Int), .bool false, .int .i64 ia, .string xa, .bool ba] 33; (try simp only [World.size_alloc] at h); exact ((h.alloc _).alloc _)
      have HB : Has W1 (w.heap.size + 1) [.int .i64 (tb : Int), .bool true, .int .i64 ib, .string xb, .bool bb] 33 := by
        rw [hW1]; have h := Has.new ((w.alloc (.cells #[.int .i64 (ta : Int), .bool false, .int .i64 ia, .string xa, .bool ba] 33))) [.int .i64 (tb : Int), .bool true, .int .i64 ib, .string xb, .bool bb] 33; (try simp only [World.size_alloc] at h); exact (h.alloc _)
      have HR : Has W1 (w.heap.size + 1 + 1) [.int .i64 (ta : Int), .bool false, .int .i64 ia, .string xa, .bool ba] 33 := by
        rw [hW1]; have h := Has.new (((w.alloc (.cells #[.int .i64 (ta : Int), .bool false, .int .i64 ia, .string xa, .bool ba] 33)).alloc (.cells #[.int .i64 (tb : Int), .bool true, .int .i64 ib, .string xb, .bool bb] 33))) [.int .i64 (ta : Int), .bool false, .int .i64 ia, .string xa, .bool ba] 33; (try simp only [World.size_alloc] at h); exact h
      have hbW1 : Below w.heap.size w W1 := by rw [hW1]; exact ((((Below.refl _ _).alloc (by first | exact Nat.le_refl _ | (simp only [World.size_alloc]; omega)) _).alloc (by first | exact Nat.le_refl _ | (simp only [World.size_alloc]; omega)) _).alloc (by first | exact Nat.le_refl _ | (simp only [World.size_alloc]; omega)) _)
      have hzW1 : W1.heap.size = w.heap.size + 3 := by rw [hW1]; simp
      replace hW1 := Lib.hid hW1
      have hf : post (.returned (.agg #[.int .i64 (ta : Int), .bool false, .int .i64 ia, .string xa, .bool ba])) W1 := by rw [← hpost.out, hres.out, if_neg Bool.false_ne_true, if_pos rfl]; exact ⟨rfl, hbW1⟩
      replace hf := Lib.hid hf
      have r0 := Lib.hid (HR.cell (o := 0) rfl)
      have r1 := Lib.hid (HR.cell (o := 1) rfl)
      have r2 := Lib.hid (HR.cell (o := 2) rfl)
      have r3 := Lib.hid (HR.cell (o := 3) rfl)
      have r4 := Lib.hid (HR.cell (o := 4) rfl)
      unfold RV.rval
      go_enter Tryz.func31, Tryz.ntmps31
      replace hzW1 := Lib.hid hzW1
      go_wp2_with fail
      rw [show ((w.alloc (.cells #[.int .i64 (ta : Int), .bool false, .int .i64 ia, .string xa, .bool ba] 33)).alloc (.cells #[.int .i64 (tb : Int), .bool true, .int .i64 ib, .string xb, .bool bb] 33)).alloc (.cells #[.int .i64 (ta : Int), .bool false, .int .i64 ia, .string xa, .bool ba] 33) = W1 from hW1.out.symm]
      exact bodyPost_ret (v := .agg #[.int .i64 (ta : Int), .bool false, .int .i64 ia, .string xa, .bool ba]) (by simp [results, Tryz.results31, go_sem, r0.out, r1.out, r2.out, r3.out, r4.out]) rfl hf.out
    | false =>
      obtain ⟨W1, hW1⟩ : ∃ W1, W1 = ((w.alloc (.cells #[.int .i64 (ta : Int), .bool false, .int .i64 ia, .string xa, .bool ba] 33)).alloc (.cells #[.int .i64 (tb : Int), .bool false, .int .i64 ib, .string xb, .bool bb] 33)).alloc (.cells #[.int .i64 0, .bool false, .int .i64 0, .string ⟨#[]⟩, .bool false] 33) := ⟨_, rfl⟩
      have HA : Has W1 (w.heap.size) [.int .i64 (ta : Int), .bool false, .int .i64 ia, .string xa, .bool ba] 33 := by
        rw [hW1]; have h := Has.new (w) [.int .i64 (ta : Int), .bool false, .int .i64 ia, .string xa, .bool ba] 33; (try simp only [World.size_alloc] at h); exact ((h.alloc _).alloc _)
      have HB : Has W1 (w.heap.size + 1) [.int .i64 (tb : Int), .bool false, .int .i64 ib, .string xb, .bool bb] 33 := by
        rw [hW1]; have h := Has.new ((w.alloc (.cells #[.int .i64 (ta : Int), .bool false, .int .i64 ia, .string xa, .bool ba] 33))) [.int .i64 (tb : Int), .bool false, .int .i64 ib, .string xb, .bool bb] 33; (try simp only [World.size_alloc] at h); exact (h.alloc _)
      have HR : Has W1 (w.heap.size + 1 + 1) [.int .i64 0, .bool false, .int .i64 0, .string ⟨#[]⟩, .bool false] 33 := by
        rw [hW1]; have h := Has.new (((w.alloc (.cells #[.int .i64 (ta : Int), .bool false, .int .i64 ia, .string xa, .bool ba] 33)).alloc (.cells #[.int .i64 (tb : Int), .bool false, .int .i64 ib, .string xb, .bool bb] 33))) [.int .i64 0, .bool false, .int .i64 0, .string ⟨#[]⟩, .bool false] 33; (try simp only [World.size_alloc] at h); exact h
      have hbW1 : Below w.heap.size w W1 := by rw [hW1]; exact ((((Below.refl _ _).alloc (by first | exact Nat.le_refl _ | (simp only [World.size_alloc]; omega)) _).alloc (by first | exact Nat.le_refl _ | (simp only [World.size_alloc]; omega)) _).alloc (by first | exact Nat.le_refl _ | (simp only [World.size_alloc]; omega)) _)
      have hzW1 : W1.heap.size = w.heap.size + 3 := by rw [hW1]; simp
      replace hW1 := Lib.hid hW1
      have cA0 := HA.cell (o := 0) rfl
      have cA1 := HA.cell (o := 1) rfl
      have cA2 := HA.cell (o := 2) rfl
      have cA3 := HA.cell (o := 3) rfl
      have cA4 := HA.cell (o := 4) rfl
      have cB0 := HB.cell (o := 0) rfl
      have cB1 := HB.cell (o := 1) rfl
      have cB2 := HB.cell (o := 2) rfl
      have cB3 := HB.cell (o := 3) rfl
      have cB4 := HB.cell (o := 4) rfl
      have cR0 := HR.cell (o := 0) rfl
      have cR1 := HR.cell (o := 1) rfl
      have cR2 := HR.cell (o := 2) rfl
      have cR3 := HR.cell (o := 3) rfl
      have cR4 := HR.cell (o := 4) rfl
      unfold RV.rval
      go_enter Tryz.func31, Tryz.ntmps31
      replace hzW1 := Lib.hid hzW1
      go_wp2_with fail
      replace hzW1 := hzW1.out
      rw [show ((w.alloc (.cells #[.int .i64 (ta : Int), .bool false, .int .i64 ia, .string xa, .bool ba] 33)).alloc (.cells #[.int .i64 (tb : Int), .bool false, .int .i64 ib, .string xb, .bool bb] 33)).alloc (.cells #[.int .i64 0, .bool false, .int .i64 0, .string ⟨#[]⟩, .bool false] 33) = W1 from hW1.out.symm]
      refine (hc.out _).mono ?_
      rintro e w1 ⟨rfl, hb1⟩
      replace HA : Has w1 (w.heap.size) [.int .i64 (ta : Int), .bool false, .int .i64 ia, .string xa, .bool ba] 33 := HA.only (Only.of_below hb1) (Nat.not_le.2 HA.lt)
      replace HB : Has w1 (w.heap.size + 1) [.int .i64 (tb : Int), .bool false, .int .i64 ib, .string xb, .bool bb] 33 := HB.only (Only.of_below hb1) (Nat.not_le.2 HB.lt)
      replace HR : Has w1 (w.heap.size + 1 + 1) [.int .i64 0, .bool false, .int .i64 0, .string ⟨#[]⟩, .bool false] 33 := HR.only (Only.of_below hb1) (Nat.not_le.2 HR.lt)
      have hbw1 : Below w.heap.size w w1 := hbW1.trans (hb1.mono hbW1.size)
      have hzw1 := hb1.size
      clear cA0 cA1 cA2 cA3 cA4 cB0 cB1 cB2 cB3 cB4 cR0 cR1 cR2 cR3 cR4
      have cA0 := HA.cell (o := 0) rfl
      have cA1 := HA.cell (o := 1) rfl
      have cA2 := HA.cell (o := 2) rfl
      have cA3 := HA.cell (o := 3) rfl
      have cA4 := HA.cell (o := 4) rfl
      have cB0 := HB.cell (o := 0) rfl
      have cB1 := HB.cell (o := 1) rfl
      have cB2 := HB.cell (o := 2) rfl
      have cB3 := HB.cell (o := 3) rfl
      have cB4 := HB.cell (o := 4) rfl
      have cR0 := HR.cell (o := 0) rfl
      have cR1 := HR.cell (o := 1) rfl
      have cR2 := HR.cell (o := 2) rfl
      have cR3 := HR.cell (o := 3) rfl
      have cR4 := HR.cell (o := 4) rfl
      have fR0 := HR.free 0
      have fR1 := HR.free 1
      have fR2 := HR.free 2
      have fR3 := HR.free 3
      have fR4 := HR.free 4
      replace hb1 := Lib.hid hb1
      obtain ⟨W2, hW2⟩ : ∃ W2, W2 = ((((w1.setCell ⟨w.heap.size + 1 + 1, 0, none⟩ (.int .i64 (tr : Int))).setCell ⟨w.heap.size + 1 + 1, 1, none⟩ (.bool nr)).setCell ⟨w.heap.size + 1 + 1, 2, none⟩ (.int .i64 ir)).setCell ⟨w.heap.size + 1 + 1, 3, none⟩ (.string xr)).setCell ⟨w.heap.size + 1 + 1, 4, none⟩ (.bool br) := ⟨_, rfl⟩
      replace HA : Has W2 (w.heap.size) [.int .i64 (ta : Int), .bool false, .int .i64 ia, .string xa, .bool ba] 33 := by rw [hW2]; exact (((((HA.set_ne (a := ⟨w.heap.size + 1 + 1, 0, none⟩) (by first | (simp; done) | (simp; omega) | omega) _).set_ne (a := ⟨w.heap.size + 1 + 1, 1, none⟩) (by first | (simp; done) | (simp; omega) | omega) _).set_ne (a := ⟨w.heap.size + 1 + 1, 2, none⟩) (by first | (simp; done) | (simp; omega) | omega) _).set_ne (a := ⟨w.heap.size + 1 + 1, 3, none⟩) (by first | (simp; done) | (simp; omega) | omega) _).set_ne (a := ⟨w.heap.size + 1 + 1, 4, none⟩) (by first | (simp; done) | (simp; omega) | omega) _)
      replace HB : Has W2 (w.heap.size + 1) [.int .i64 (tb : Int), .bool false, .int .i64 ib, .string xb, .bool bb] 33 := by rw [hW2]; exact (((((HB.set_ne (a := ⟨w.heap.size + 1 + 1, 0, none⟩) (by first | (simp; done) | (simp; omega) | omega) _).set_ne (a := ⟨w.heap.size + 1 + 1, 1, none⟩) (by first | (simp; done) | (simp; omega) | omega) _).set_ne (a := ⟨w.heap.size + 1 + 1, 2, none⟩) (by first | (simp; done) | (simp; omega) | omega) _).set_ne (a := ⟨w.heap.size + 1 + 1, 3, none⟩) (by first | (simp; done) | (simp; omega) | omega) _).set_ne (a := ⟨w.heap.size + 1 + 1, 4, none⟩) (by first | (simp; done) | (simp; omega) | omega) _)
      replace HR : Has W2 (w.heap.size + 1 + 1) [.int .i64 (tr : Int), .bool nr, .int .i64 ir, .string xr, .bool br] 33 := by rw [hW2]; exact (((((HR.set 0 (.int .i64 (tr : Int))).set 1 (.bool nr)).set 2 (.int .i64 ir)).set 3 (.string xr)).set 4 (.bool br))
      have hbW2 : Below w.heap.size w W2 := by rw [hW2]; exact (((((hbw1.setCell (p := ⟨w.heap.size + 1 + 1, 0, none⟩) (by first | exact Nat.le_refl _ | (simp; omega) | omega) _).setCell (p := ⟨w.heap.size + 1 + 1, 1, none⟩) (by first | exact Nat.le_refl _ | (simp; omega) | omega) _).setCell (p := ⟨w.heap.size + 1 + 1, 2, none⟩) (by first | exact Nat.le_refl _ | (simp; omega) | omega) _).setCell (p := ⟨w.heap.size + 1 + 1, 3, none⟩) (by first | exact Nat.le_refl _ | (simp; omega) | omega) _).setCell (p := ⟨w.heap.size + 1 + 1, 4, none⟩) (by first | exact Nat.le_refl _ | (simp; omega) | omega) _)
      have hzW2 : W2.heap.size = w1.heap.size := by rw [hW2]; simp
      replace hW2 := Lib.hid hW2
      have hf : post (.returned (.agg #[.int .i64 (tr : Int), .bool nr, .int .i64 ir, .string xr, .bool br])) W2 := by rw [← hpost.out, hres.out, if_neg Bool.false_ne_true, if_neg Bool.false_ne_true]; exact ⟨rfl, hbW2⟩
      replace hf := Lib.hid hf
      have r0 := Lib.hid (HR.cell (o := 0) rfl)
      have r1 := Lib.hid (HR.cell (o := 1) rfl)
      have r2 := Lib.hid (HR.cell (o := 2) rfl)
      have r3 := Lib.hid (HR.cell (o := 3) rfl)
      have r4 := Lib.hid (HR.cell (o := 4) rfl)
      replace hzW1 := Lib.hid hzW1
      replace hzW2 := Lib.hid hzW2
      go_wp2_with fail
      rw [show ((((w1.setCell ⟨w.heap.size + 1 + 1, 0, none⟩ (.int .i64 (tr : Int))).setCell ⟨w.heap.size + 1 + 1, 1, none⟩ (.bool nr)).setCell ⟨w.heap.size + 1 + 1, 2, none⟩ (.int .i64 ir)).setCell ⟨w.heap.size + 1 + 1, 3, none⟩ (.string xr)).setCell ⟨w.heap.size + 1 + 1, 4, none⟩ (.bool br) = W2 from hW2.out.symm]
      exact bodyPost_ret (v := .agg #[.int .i64 (tr : Int), .bool nr, .int .i64 ir, .string xr, .bool br]) (by simp [results, Tryz.results31, go_sem, r0.out, r1.out, r2.out, r3.out, r4.out]) rfl hf.out
set_option maxHeartbeats 2000000 in
theorem rordered_any (a b : RV) (hsa : a.tx.size ≤ 140737488351232) (hsb : b.tx.size ≤ 140737488351232) (w : World) : Calls Tryz.prog 32 #[a.rval, b.rval] w (RPost w (.bool (ordR a b))) := by
  have hc := fun w => rcmp_c a b hsa hsb w
  have hres : ordR a b = (a.nl || b.nl || !cmpBad a b) := rfl
  obtain ⟨ta, na, ia, xa, ba⟩ := a
  obtain ⟨tb, nb, ib, xb, bb⟩ := b
  generalize ordR ⟨ta, na, ia, xa, ba⟩ ⟨tb, nb, ib, xb, bb⟩ = rs at *
  generalize cmpBad ⟨ta, na, ia, xa, ba⟩ ⟨tb, nb, ib, xb, bb⟩ = cb at *
  generalize cmpR ⟨ta, na, ia, xa, ba⟩ ⟨tb, nb, ib, xb, bb⟩ = cr at *
  generalize hpost : RPost w (.bool rs) = post
  replace hpost := Lib.hid hpost
  dsimp only [RV.rval] at hc
  dsimp only at hres
  replace hres := Lib.hid hres
  replace hc := Lib.hid hc
  obtain ⟨W1, hW1⟩ : ∃ W1, W1 = (w.alloc (.cells #[.int .i64 (ta : Int), .bool na, .int .i64 ia, .string xa, .bool ba] 33)).alloc (.cells #[.int .i64 (tb : Int), .bool nb, .int .i64 ib, .string xb, .bool bb] 33) := ⟨_, rfl⟩
  have HA : Has W1 (w.heap.size) [.int .i64 (ta : Int), .bool na, .int .i64 ia, .string xa, .bool ba] 33 := by
    rw [hW1]; have h := Has.new (w) [.int .i64 (ta : Int), .bool na, .int .i64 ia, .string xa, .bool ba] 33; (try simp only [World.size_alloc] at h); exact (h.alloc _)
  have HB : Has W1 (w.heap.size + 1) [.int .i64 (tb : Int), .bool nb, .int .i64 ib, .string xb, .bool bb] 33 := by
    rw [hW1]; have h := Has.new ((w.alloc (.cells #[.int .i64 (ta : Int), .bool na, .int .i64 ia, .string xa, .bool ba] 33))) [.int .i64 (tb : Int), .bool nb, .int .i64 ib, .string xb, .bool bb] 33; (try simp only [World.size_alloc] at h); exact h
  have hbW1 : Below w.heap.size w W1 := by rw [hW1]; exact (((Below.refl _ _).alloc (by first | exact Nat.le_refl _ | (simp only [World.size_alloc]; omega)) _).alloc (by first | exact Nat.le_refl _ | (simp only [World.size_alloc]; omega)) _)
  have hzW1 : W1.heap.size = w.heap.size + 2 := by rw [hW1]; simp
  replace hW1 := Lib.hid hW1
  have cA0 := HA.cell (o := 0) rfl
  have cA1 := HA.cell (o := 1) rfl
  have cA2 := HA.cell (o := 2) rfl
  have cA3 := HA.cell (o := 3) rfl
  have cA4 := HA.cell (o := 4) rfl
  have cB0 := HB.cell (o := 0) rfl
  have cB1 := HB.cell (o := 1) rfl
  have cB2 := HB.cell (o := 2) rfl
  have cB3 := HB.cell (o := 3) rfl
  have cB4 := HB.cell (o := 4) rfl
  unfold RV.rval
  go_enter Tryz.func32, Tryz.ntmps32
  replace hzW1 := Lib.hid hzW1
  go_wp2_with fail
  replace hzW1 := hzW1.out
  rw [show (w.alloc (.cells #[.int .i64 (ta : Int), .bool na, .int .i64 ia, .string xa, .bool ba] 33)).alloc (.cells #[.int .i64 (tb : Int), .bool nb, .int .i64 ib, .string xb, .bool bb] 33) = W1 from hW1.out.symm]
  refine (hc.out _).mono ?_
  rintro e w1 ⟨rfl, hb1⟩
  replace HA : Has w1 (w.heap.size) [.int .i64 (ta : Int), .bool na, .int .i64 ia, .string xa, .bool ba] 33 := HA.only (Only.of_below hb1) (Nat.not_le.2 HA.lt)
  replace HB : Has w1 (w.heap.size + 1) [.int .i64 (tb : Int), .bool nb, .int .i64 ib, .string xb, .bool bb] 33 := HB.only (Only.of_below hb1) (Nat.not_le.2 HB.lt)
  have hbw1 : Below w.heap.size w w1 := hbW1.trans (hb1.mono hbW1.size)
  have hzw1 := hb1.size
  have hf : post (.returned (.bool (na || nb || !cb))) w1 := by rw [← hpost.out, ← hres.out]; exact ⟨rfl, hbw1⟩
  replace hf := Lib.hid hf
  replace hb1 := Lib.hid hb1
  cases na <;> cases nb <;> cases cb
  all_goals
    clear cA0 cA1 cA2 cA3 cA4 cB0 cB1 cB2 cB3 cB4
    have cA0 := HA.cell (o := 0) rfl
    have cA1 := HA.cell (o := 1) rfl
    have cA2 := HA.cell (o := 2) rfl
    have cA3 := HA.cell (o := 3) rfl
    have cA4 := HA.cell (o := 4) rfl
    have cB0 := HB.cell (o := 0) rfl
    have cB1 := HB.cell (o := 1) rfl
    have cB2 := HB.cell (o := 2) rfl
    have cB3 := HB.cell (o := 3) rfl
    have cB4 := HB.cell (o := 4) rfl
    simp only [if_true, Bool.false_eq_true, if_false]
    go_wp2_with fail
    first | exact hf.out | (go_ret; exact hf.out)
set_option maxHeartbeats 4000000 in
theorem reither_any (a b : RV) (s : Int) (hs : s = 1 ∨ s = -1) (hsa : a.tx.size ≤ 140737488351232) (hsb : b.tx.size ≤ 140737488351232) (w : World) : Calls Tryz.prog 33 #[a.rval, b.rval, .int .i64 s] w (RPost w (eitherR a b s).rval) := by
  have hc := fun w => rcmp_c a b hsa hsb w
  have hp := fun w => pick_any a b s hs hsa hsb w
  have hres : eitherR a b s = if a.nl || b.nl || cmpBad a b then RVN else pickR a b s := rfl
  obtain ⟨ta, na, ia, xa, ba⟩ := a
  obtain ⟨tb, nb, ib, xb, bb⟩ := b
  generalize eitherR ⟨ta, na, ia, xa, ba⟩ ⟨tb, nb, ib, xb, bb⟩ s = rs at *
  generalize hpost : RPost w rs.rval = post
  replace hpost := Lib.hid hpost
  generalize pickR ⟨ta, na, ia, xa, ba⟩ ⟨tb, nb, ib, xb, bb⟩ s = pk at *
  obtain ⟨tr, nr, ir, xr, br⟩ := pk
  generalize cmpBad ⟨ta, na, ia, xa, ba⟩ ⟨tb, nb, ib, xb, bb⟩ = cb at *
  generalize cmpR ⟨ta, na, ia, xa, ba⟩ ⟨tb, nb, ib, xb, bb⟩ = cr at *
  dsimp only [RV.rval] at hc hp
  dsimp only at hres
  have hn : ∀ w : World, Calls Tryz.prog 30 #[] w (RPost w (.agg #[.int .i64 0, .bool true, .int .i64 0, .string ⟨#[]⟩, .bool false])) := none_any
  replace hn := Lib.hid hn
  replace hres := Lib.hid hres
  replace hc := Lib.hid hc
  replace hp := Lib.hid hp
  obtain ⟨W1, hW1⟩ : ∃ W1, W1 = ((w.alloc (.cells #[.int .i64 (ta : Int), .bool na, .int .i64 ia, .string xa, .bool ba] 33)).alloc (.cells #[.int .i64 (tb : Int), .bool nb, .int .i64 ib, .string xb, .bool bb] 33)).alloc (.cells #[.int .i64 0, .bool false, .int .i64 0, .string ⟨#[]⟩, .bool false] 33) := ⟨_, rfl⟩
  have HA : Has W1 (w.heap.size) [.int .i64 (ta : Int), .bool na, .int .i64 ia, .string xa, .bool ba] 33 := by
    rw [hW1]; have h := Has.new (w) [.int .i64 (ta : Int), .bool na, .int .i64 ia, .string xa, .bool ba] 33; (try simp only [World.size_alloc] at h); exact ((h.alloc _).alloc _)
  have HB : Has W1 (w.heap.size + 1) [.int .i64 (tb : Int), .bool nb, .int .i64 ib, .string xb, .bool bb] 33 := by
    rw [hW1]; have h := Has.new ((w.alloc (.cells #[.int .i64 (ta : Int), .bool na, .int .i64 ia, .string xa, .bool ba] 33))) [.int .i64 (tb : Int), .bool nb, .int .i64 ib, .string xb, .bool bb] 33; (try simp only [World.size_alloc] at h); exact (h.alloc _)
  have HR : Has W1 (w.heap.size + 1 + 1) [.int .i64 0, .bool false, .int .i64 0, .string ⟨#[]⟩, .bool false] 33 := by
    rw [hW1]; have h := Has.new (((w.alloc (.cells #[.int .i64 (ta : Int), .bool na, .int .i64 ia, .string xa, .bool ba] 33)).alloc (.cells #[.int .i64 (tb : Int), .bool nb, .int .i64 ib, .string xb, .bool bb] 33))) [.int .i64 0, .bool false, .int .i64 0, .string ⟨#[]⟩, .bool false] 33; (try simp only [World.size_alloc] at h); exact h
  have hbW1 : Below w.heap.size w W1 := by rw [hW1]; exact ((((Below.refl _ _).alloc (by first | exact Nat.le_refl _ | (simp only [World.size_alloc]; omega)) _).alloc (by first | exact Nat.le_refl _ | (simp only [World.size_alloc]; omega)) _).alloc (by first | exact Nat.le_refl _ | (simp only [World.size_alloc]; omega)) _)
  have hzW1 : W1.heap.size = w.heap.size + 3 := by rw [hW1]; simp
  replace hW1 := Lib.hid hW1
  have cA0 := HA.cell (o := 0) rfl
  have cA1 := HA.cell (o := 1) rfl
  have cA2 := HA.cell (o := 2) rfl
  have cA3 := HA.cell (o := 3) rfl
  have cA4 := HA.cell (o := 4) rfl
  have cB0 := HB.cell (o := 0) rfl
  have cB1 := HB.cell (o := 1) rfl
  have cB2 := HB.cell (o := 2) rfl
  have cB3 := HB.cell (o := 3) rfl
  have cB4 := HB.cell (o := 4) rfl
  have cR0 := HR.cell (o := 0) rfl
  have cR1 := HR.cell (o := 1) rfl
  have cR2 := HR.cell (o := 2) rfl
  have cR3 := HR.cell (o := 3) rfl
  have cR4 := HR.cell (o := 4) rfl
  unfold RV.rval
  go_enter Tryz.func33, Tryz.ntmps33
  replace hzW1 := Lib.hid hzW1
  go_wp2_with fail
  replace hzW1 := hzW1.out
  rw [show ((w.alloc (.cells #[.int .i64 (ta : Int), .bool na, .int .i64 ia, .string xa, .bool ba] 33)).alloc (.cells #[.int .i64 (tb : Int), .bool nb, .int .i64 ib, .string xb, .bool bb] 33)).alloc (.cells #[.int .i64 0, .bool false, .int .i64 0, .string ⟨#[]⟩, .bool false] 33) = W1 from hW1.out.symm]
  refine (hc.out _).mono ?_
  rintro e w1 ⟨rfl, hb1⟩
  replace HA : Has w1 (w.heap.size) [.int .i64 (ta : Int), .bool na, .int .i64 ia, .string xa, .bool ba] 33 := HA.only (Only.of_below hb1) (Nat.not_le.2 HA.lt)
  replace HB : Has w1 (w.heap.size + 1) [.int .i64 (tb : Int), .bool nb, .int .i64 ib, .string xb, .bool bb] 33 := HB.only (Only.of_below hb1) (Nat.not_le.2 HB.lt)
  replace HR : Has w1 (w.heap.size + 1 + 1) [.int .i64 0, .bool false, .int .i64 0, .string ⟨#[]⟩, .bool false] 33 := HR.only (Only.of_below hb1) (Nat.not_le.2 HR.lt)
  have hbw1 : Below w.heap.size w w1 := hbW1.trans (hb1.mono hbW1.size)
  have hzw1 := hb1.size
  replace hb1 := Lib.hid hb1
  cases na with
  | true =>
    cases cb <;> cases nb
    · clear cA0 cA1 cA2 cA3 cA4 cB0 cB1 cB2 cB3 cB4 cR0 cR1 cR2 cR3 cR4
      have cA0 := HA.cell (o := 0) rfl
      have cA1 := HA.cell (o := 1) rfl
      have cA2 := HA.cell (o := 2) rfl
      have cA3 := HA.cell (o := 3) rfl
      have cA4 := HA.cell (o := 4) rfl
      have cB0 := HB.cell (o := 0) rfl
      have cB1 := HB.cell (o := 1) rfl
      have cB2 := HB.cell (o := 2) rfl
      have cB3 := HB.cell (o := 3) rfl
      have cB4 := HB.cell (o := 4) rfl
      have cR0 := HR.cell (o := 0) rfl
      have cR1 := HR.cell (o := 1) rfl
      have cR2 := HR.cell (o := 2) rfl
      have cR3 := HR.cell (o := 3) rfl
      have cR4 := HR.cell (o := 4) rfl
      simp only [if_true, Bool.false_eq_true, if_false]
      replace hzW1 := Lib.hid hzW1
      go_wp2_with fail
      replace hzW1 := hzW1.out
      refine (hn.out _).mono ?_
      rintro e w2 ⟨rfl, hb2⟩
      replace HA : Has w2 (w.heap.size) [.int .i64 (ta : Int), .bool true, .int .i64 ia, .string xa, .bool ba] 33 := HA.only (Only.of_below hb2) (Nat.not_le.2 HA.lt)
      replace HB : Has w2 (w.heap.size + 1) [.int .i64 (tb : Int), .bool false, .int .i64 ib, .string xb, .bool bb] 33 := HB.only (Only.of_below hb2) (Nat.not_le.2 HB.lt)
      replace HR : Has w2 (w.heap.size + 1 + 1) [.int .i64 0, .bool false, .int .i64 0, .string ⟨#[]⟩, .bool false] 33 := HR.only (Only.of_below hb2) (Nat.not_le.2 HR.lt)
      have hbw2 : Below w.heap.size w w2 := hbw1.trans (hb2.mono hbw1.size)
      have hzw2 := hb2.size
      clear cA0 cA1 cA2 cA3 cA4 cB0 cB1 cB2 cB3 cB4 cR0 cR1 cR2 cR3 cR4
      have cA0 := HA.cell (o := 0) rfl
      have cA1 := HA.cell (o := 1) rfl
      have cA2 := HA.cell (o := 2) rfl
      have cA3 := HA.cell (o := 3) rfl
      have cA4 := HA.cell (o := 4) rfl
      have cB0 := HB.cell (o := 0) rfl
      have cB1 := HB.cell (o := 1) rfl
      have cB2 := HB.cell (o := 2) rfl
      have cB3 := HB.cell (o := 3) rfl
      have cB4 := HB.cell (o := 4) rfl
      have cR0 := HR.cell (o := 0) rfl
      have cR1 := HR.cell (o := 1) rfl
      have cR2 := HR.cell (o := 2) rfl
      have cR3 := HR.cell (o := 3) rfl
      have cR4 := HR.cell (o := 4) rfl
      have fR0 := HR.free 0
      have fR1 := HR.free 1
      have fR2 := HR.free 2
      have fR3 := HR.free 3
      have fR4 := HR.free 4
      replace hb2 := Lib.hid hb2
      obtain ⟨W2, hW2⟩ : ∃ W2, W2 = ((((w2.setCell ⟨w.heap.size + 1 + 1, 0, none⟩ (.int .i64 0)).setCell ⟨w.heap.size + 1 + 1, 1, none⟩ (.bool true)).setCell ⟨w.heap.size + 1 + 1, 2, none⟩ (.int .i64 0)).setCell ⟨w.heap.size + 1 + 1, 3, none⟩ (.string ⟨#[]⟩)).setCell ⟨w.heap.size + 1 + 1, 4, none⟩ (.bool false) := ⟨_, rfl⟩
      replace HA : Has W2 (w.heap.size) [.int .i64 (ta : Int), .bool true, .int .i64 ia, .string xa, .bool ba] 33 := by rw [hW2]; exact (((((HA.set_ne (a := ⟨w.heap.size + 1 + 1, 0, none⟩) (by first | (simp; done) | (simp; omega) | omega) _).set_ne (a := ⟨w.heap.size + 1 + 1, 1, none⟩) (by first | (simp; done) | (simp; omega) | omega) _).set_ne (a := ⟨w.heap.size + 1 + 1, 2, none⟩) (by first | (simp; done) | (simp; omega) | omega) _).set_ne (a := ⟨w.heap.size + 1 + 1, 3, none⟩) (by first | (simp; done) | (simp; omega) | omega) _).set_ne (a := ⟨w.heap.size + 1 + 1, 4, none⟩) (by first | (simp; done) | (simp; omega) | omega) _)
      replace HB : Has W2 (w.heap.size + 1) [.int .i64 (tb : Int), .bool false, .int .i64 ib, .string xb, .bool bb] 33 := by rw [hW2]; exact (((((HB.set_ne (a := ⟨w.heap.size + 1 + 1, 0, none⟩) (by first | (simp; done) | (simp; omega) | omega) _).set_ne (a := ⟨w.heap.size + 1 + 1, 1, none⟩) (by first | (simp; done) | (simp; omega) | omega) _).set_ne (a := ⟨w.heap.size + 1 + 1, 2, none⟩) (by first | (simp; done) | (simp; omega) | omega) _).set_ne (a := ⟨w.heap.size + 1 + 1, 3, none⟩) (by first | (simp; done) | (simp; omega) | omega) _).set_ne (a := ⟨w.heap.size + 1 + 1, 4, none⟩) (by first | (simp; done) | (simp; omega) | omega) _)
      replace HR : Has W2 (w.heap.size + 1 + 1) [.int .i64 0, .bool true, .int .i64 0, .string ⟨#[]⟩, .bool false] 33 := by rw [hW2]; exact (((((HR.set 0 (.int .i64 0)).set 1 (.bool true)).set 2 (.int .i64 0)).set 3 (.string ⟨#[]⟩)).set 4 (.bool false))
      have hbW2 : Below w.heap.size w W2 := by rw [hW2]; exact (((((hbw2.setCell (p := ⟨w.heap.size + 1 + 1, 0, none⟩) (by first | exact Nat.le_refl _ | (simp; omega) | omega) _).setCell (p := ⟨w.heap.size + 1 + 1, 1, none⟩) (by first | exact Nat.le_refl _ | (simp; omega) | omega) _).setCell (p := ⟨w.heap.size + 1 + 1, 2, none⟩) (by first | exact Nat.le_refl _ | (simp; omega) | omega) _).setCell (p := ⟨w.heap.size + 1 + 1, 3, none⟩) (by first | exact Nat.le_refl _ | (simp; omega) | omega) _).setCell (p := ⟨w.heap.size + 1 + 1, 4, none⟩) (by first | exact Nat.le_refl _ | (simp; omega) | omega) _)
      have hzW2 : W2.heap.size = w2.heap.size := by rw [hW2]; simp
      replace hW2 := Lib.hid hW2
      have hf : post (.returned (.agg #[.int .i64 0, .bool true, .int .i64 0, .string ⟨#[]⟩, .bool false])) W2 := by rw [← hpost.out, hres.out]; simp only [Bool.or_false, Bool.or_true, Bool.or_self, Bool.true_or, Bool.false_or, if_true, Bool.false_eq_true, if_false]; exact ⟨rfl, hbW2⟩
      replace hf := Lib.hid hf
      have r0 := Lib.hid (HR.cell (o := 0) rfl)
      have r1 := Lib.hid (HR.cell (o := 1) rfl)
      have r2 := Lib.hid (HR.cell (o := 2) rfl)
      have r3 := Lib.hid (HR.cell (o := 3) rfl)
      have r4 := Lib.hid (HR.cell (o := 4) rfl)
      replace hzW1 := Lib.hid hzW1
      replace hzW2 := Lib.hid hzW2
      go_wp2_with fail
      rw [show ((((w2.setCell ⟨w.heap.size + 1 + 1, 0, none⟩ (.int .i64 0)).setCell ⟨w.heap.size + 1 + 1, 1, none⟩ (.bool true)).setCell ⟨w.heap.size + 1 + 1, 2, none⟩ (.int .i64 0)).setCell ⟨w.heap.size + 1 + 1, 3, none⟩ (.string ⟨#[]⟩)).setCell ⟨w.heap.size + 1 + 1, 4, none⟩ (.bool false) = W2 from hW2.out.symm]
      exact bodyPost_ret (v := .agg #[.int .i64 0, .bool true, .int .i64 0, .string ⟨#[]⟩, .bool false]) (by simp [results, Tryz.results33, go_sem, r0.out, r1.out, r2.out, r3.out, r4.out]) rfl hf.out
    · clear cA0 cA1 cA2 cA3 cA4 cB0 cB1 cB2 cB3 cB4 cR0 cR1 cR2 cR3 cR4
      have cA0 := HA.cell (o := 0) rfl
      have cA1 := HA.cell (o := 1) rfl
      have cA2 := HA.cell (o := 2) rfl
      have cA3 := HA.cell (o := 3) rfl
      have cA4 := HA.cell (o := 4) rfl
      have cB0 := HB.cell (o := 0) rfl
      have cB1 := HB.cell (o := 1) rfl
      have cB2 := HB.cell (o := 2) rfl
      have cB3 := HB.cell (o := 3) rfl
      have cB4 := HB.cell (o := 4) rfl
      have cR0 := HR.cell (o := 0) rfl
      have cR1 := HR.cell (o := 1) rfl
      have cR2 := HR.cell (o := 2) rfl
      have cR3 := HR.cell (o := 3) rfl
      have cR4 := HR.cell (o := 4) rfl
      simp only [if_true, Bool.false_eq_true, if_false]
      replace hzW1 := Lib.hid hzW1
      go_wp2_with fail
      replace hzW1 := hzW1.out
      refine (hn.out _).mono ?_
      rintro e w2 ⟨rfl, hb2⟩
      replace HA : Has w2 (w.heap.size) [.int .i64 (ta : Int), .bool true, .int .i64 ia, .string xa, .bool ba] 33 := HA.only (Only.of_below hb2) (Nat.not_le.2 HA.lt)
      replace HB : Has w2 (w.heap.size + 1) [.int .i64 (tb : Int), .bool true, .int .i64 ib, .string xb, .bool bb] 33 := HB.only (Only.of_below hb2) (Nat.not_le.2 HB.lt)
      replace HR : Has w2 (w.heap.size + 1 + 1) [.int .i64 0, .bool false, .int .i64 0, .string ⟨#[]⟩, .bool false] 33 := HR.only (Only.of_below hb2) (Nat.not_le.2 HR.lt)
      have hbw2 : Below w.heap.size w w2 := hbw1.trans (hb2.mono hbw1.size)
      have hzw2 := hb2.size
      clear cA0 cA1 cA2 cA3 cA4 cB0 cB1 cB2 cB3 cB4 cR0 cR1 cR2 cR3 cR4
      have cA0 := HA.cell (o := 0) rfl
      have cA1 := HA.cell (o := 1) rfl
      have cA2 := HA.cell (o := 2) rfl
      have cA3 := HA.cell (o := 3) rfl
      have cA4 := HA.cell (o := 4) rfl
      have cB0 := HB.cell (o := 0) rfl
      have cB1 := HB.cell (o := 1) rfl
      have cB2 := HB.cell (o := 2) rfl
      have cB3 := HB.cell (o := 3) rfl
      have cB4 := HB.cell (o := 4) rfl
      have cR0 := HR.cell (o := 0) rfl
      have cR1 := HR.cell (o := 1) rfl
      have cR2 := HR.cell (o := 2) rfl
      have cR3 := HR.cell (o := 3) rfl
      have cR4 := HR.cell (o := 4) rfl
      have fR0 := HR.free 0
      have fR1 := HR.free 1
      have fR2 := HR.free 2
      have fR3 := HR.free 3
      have fR4 := HR.free 4
      replace hb2 := Lib.hid hb2
      obtain ⟨W2, hW2⟩ : ∃ W2, W2 = ((((w2.setCell ⟨w.heap.size + 1 + 1, 0, none⟩ (.int .i64 0)).setCell ⟨w.heap.size + 1 + 1, 1, none⟩ (.bool true)).setCell ⟨w.heap.size + 1 + 1, 2, none⟩ (.int .i64 0)).setCell ⟨w.heap.size + 1 + 1, 3, none⟩ (.string ⟨#[]⟩)).setCell ⟨w.heap.size + 1 + 1, 4, none⟩ (.bool false) := ⟨_, rfl⟩
      replace HA : Has W2 (w.heap.size) [.int .i64 (ta : Int), .bool true, .int .i64 ia, .string xa, .bool ba] 33 := by rw [hW2]; exact (((((HA.set_ne (a := ⟨w.heap.size + 1 + 1, 0, none⟩) (by first | (simp; done) | (simp; omega) | omega) _).set_ne (a := ⟨w.heap.size + 1 + 1, 1, none⟩) (by first | (simp; done) | (simp; omega) | omega) _).set_ne (a := ⟨w.heap.size + 1 + 1, 2, none⟩) (by first | (simp; done) | (simp; omega) | omega) _).set_ne (a := ⟨w.heap.size + 1 + 1, 3, none⟩) (by first | (simp; done) | (simp; omega) | omega) _).set_ne (a := ⟨w.heap.size + 1 + 1, 4, none⟩) (by first | (simp; done) | (simp; omega) | omega) _)
      replace HB : Has W2 (w.heap.size + 1) [.int .i64 (tb : Int), .bool true, .int .i64 ib, .string xb, .bool bb] 33 := by rw [hW2]; exact (((((HB.set_ne (a := ⟨w.heap.size + 1 + 1, 0, none⟩) (by first | (simp; done) | (simp; omega) | omega) _).set_ne (a := ⟨w.heap.size + 1 + 1, 1, none⟩) (by first | (simp; done) | (simp; omega) | omega) _).set_ne (a := ⟨w.heap.size + 1 + 1, 2, none⟩) (by first | (simp; done) | (simp; omega) | omega) _).set_ne (a := ⟨w.heap.size + 1 + 1, 3, none⟩) (by first | (simp; done) | (simp; omega) | omega) _).set_ne (a := ⟨w.heap.size + 1 + 1, 4, none⟩) (by first | (simp; done) | (simp; omega) | omega) _)
      replace HR : Has W2 (w.heap.size + 1 + 1) [.int .i64 0, .bool true, .int .i64 0, .string ⟨#[]⟩, .bool false] 33 := by rw [hW2]; exact (((((HR.set 0 (.int .i64 0)).set 1 (.bool true)).set 2 (.int .i64 0)).set 3 (.string ⟨#[]⟩)).set 4 (.bool false))
      have hbW2 : Below w.heap.size w W2 := by rw [hW2]; exact (((((hbw2.setCell (p := ⟨w.heap.size + 1 + 1, 0, none⟩) (by first | exact Nat.le_refl _ | (simp; omega) | omega) _).setCell (p := ⟨w.heap.size + 1 + 1, 1, none⟩) (by first | exact Nat.le_refl _ | (simp; omega) | omega) _).setCell (p := ⟨w.heap.size + 1 + 1, 2, none⟩) (by first | exact Nat.le_refl _ | (simp; omega) | omega) _).setCell (p := ⟨w.heap.size + 1 + 1, 3, none⟩) (by first | exact Nat.le_refl _ | (simp; omega) | omega) _).setCell (p := ⟨w.heap.size + 1 + 1, 4, none⟩) (by first | exact Nat.le_refl _ | (simp; omega) | omega) _)
      have hzW2 : W2.heap.size = w2.heap.size := by rw [hW2]; simp
      replace hW2 := Lib.hid hW2
      have hf : post (.returned (.agg #[.int .i64 0, .bool true, .int .i64 0, .string ⟨#[]⟩, .bool false])) W2 := by rw [← hpost.out, hres.out]; simp only [Bool.or_false, Bool.or_true, Bool.or_self, Bool.true_or, Bool.false_or, if_true, Bool.false_eq_true, if_false]; exact ⟨rfl, hbW2⟩
      replace hf := Lib.hid hf
      have r0 := Lib.hid (HR.cell (o := 0) rfl)
      have r1 := Lib.hid (HR.cell (o := 1) rfl)
      have r2 := Lib.hid (HR.cell (o := 2) rfl)
      have r3 := Lib.hid (HR.cell (o := 3) rfl)
      have r4 := Lib.hid (HR.cell (o := 4) rfl)
      replace hzW1 := Lib.hid hzW1
      replace hzW2 := Lib.hid hzW2
      go_wp2_with fail
      rw [show ((((w2.setCell ⟨w.heap.size + 1 + 1, 0, none⟩ (.int .i64 0)).setCell ⟨w.heap.size + 1 + 1, 1, none⟩ (.bool true)).setCell ⟨w.heap.size + 1 + 1, 2, none⟩ (.int .i64 0)).setCell ⟨w.heap.size + 1 + 1, 3, none⟩ (.string ⟨#[]⟩)).setCell ⟨w.heap.size + 1 + 1, 4, none⟩ (.bool false) = W2 from hW2.out.symm]
      exact bodyPost_ret (v := .agg #[.int .i64 0, .bool true, .int .i64 0, .string ⟨#[]⟩, .bool false]) (by simp [results, Tryz.results33, go_sem, r0.out, r1.out, r2.out, r3.out, r4.out]) rfl hf.out
    · clear cA0 cA1 cA2 cA3 cA4 cB0 cB1 cB2 cB3 cB4 cR0 cR1 cR2 cR3 cR4
      have cA0 := HA.cell (o := 0) rfl
      have cA1 := HA.cell (o := 1) rfl
      have cA2 := HA.cell (o := 2) rfl
      have cA3 := HA.cell (o := 3) rfl
      have cA4 := HA.cell (o := 4) rfl
      have cB0 := HB.cell (o := 0) rfl
      have cB1 := HB.cell (o := 1) rfl
      have cB2 := HB.cell (o := 2) rfl
      have cB3 := HB.cell (o := 3) rfl
      have cB4 := HB.cell (o := 4) rfl
      have cR0 := HR.cell (o := 0) rfl
      have cR1 := HR.cell (o := 1) rfl
      have cR2 := HR.cell (o := 2) rfl
      have cR3 := HR.cell (o := 3) rfl
      have cR4 := HR.cell (o := 4) rfl
      simp only [if_true, Bool.false_eq_true, if_false]
      replace hzW1 := Lib.hid hzW1
      go_wp2_with fail
      replace hzW1 := hzW1.out
      refine (hn.out _).mono ?_
      rintro e w2 ⟨rfl, hb2⟩
      replace HA : Has w2 (w.heap.size) [.int .i64 (ta : Int), .bool true, .int .i64 ia, .string xa, .bool ba] 33 := HA.only (Only.of_below hb2) (Nat.not_le.2 HA.lt)
      replace HB : Has w2 (w.heap.size + 1) [.int .i64 (tb : Int), .bool false, .int .i64 ib, .string xb, .bool bb] 33 := HB.only (Only.of_below hb2) (Nat.not_le.2 HB.lt)
      replace HR : Has w2 (w.heap.size + 1 + 1) [.int .i64 0, .bool false, .int .i64 0, .string ⟨#[]⟩, .bool false] 33 := HR.only (Only.of_below hb2) (Nat.not_le.2 HR.lt)
      have hbw2 : Below w.heap.size w w2 := hbw1.trans (hb2.mono hbw1.size)
      have hzw2 := hb2.size
      clear cA0 cA1 cA2 cA3 cA4 cB0 cB1 cB2 cB3 cB4 cR0 cR1 cR2 cR3 cR4
      have cA0 := HA.cell (o := 0) rfl
      have cA1 := HA.cell (o := 1) rfl
      have cA2 := HA.cell (o := 2) rfl
      have cA3 := HA.cell (o := 3) rfl
      have cA4 := HA.cell (o := 4) rfl
      have cB0 := HB.cell (o := 0) rfl
      have cB1 := HB.cell (o := 1) rfl
      have cB2 := HB.cell (o := 2) rfl
      have cB3 := HB.cell (o := 3) rfl
      have cB4 := HB.cell (o := 4) rfl
      have cR0 := HR.cell (o := 0) rfl
      have cR1 := HR.cell (o := 1) rfl
      have cR2 := HR.cell (o := 2) rfl
      have cR3 := HR.cell (o := 3) rfl
      have cR4 := HR.cell (o := 4) rfl
      have fR0 := HR.free 0
      have fR1 := HR.free 1
      have fR2 := HR.free 2
      have fR3 := HR.free 3
      have fR4 := HR.free 4
      replace hb2 := Lib.hid hb2
      obtain ⟨W2, hW2⟩ : ∃ W2, W2 = ((((w2.setCell ⟨w.heap.size + 1 + 1, 0, none⟩ (.int .i64 0)).setCell ⟨w.heap.size + 1 + 1, 1, none⟩ (.bool true)).setCell ⟨w.heap.size + 1 + 1, 2, none⟩ (.int .i64 0)).setCell ⟨w.heap.size + 1 + 1, 3, none⟩ (.string ⟨#[]⟩)).setCell ⟨w.heap.size + 1 + 1, 4, none⟩ (.bool false) := ⟨_, rfl⟩
      replace HA : Has W2 (w.heap.size) [.int .i64 (ta : Int), .bool true, .int .i64 ia, .string xa, .bool ba] 33 := by rw [hW2]; exact (((((HA.set_ne (a := ⟨w.heap.size + 1 + 1, 0, none⟩) (by first | (simp; done) | (simp; omega) | omega) _).set_ne (a := ⟨w.heap.size + 1 + 1, 1, none⟩) (by first | (simp; done) | (simp; omega) | omega) _).set_ne (a := ⟨w.heap.size + 1 + 1, 2, none⟩) (by first | (simp; done) | (simp; omega) | omega) _).set_ne (a := ⟨w.heap.size + 1 + 1, 3, none⟩) (by first | (simp; done) | (simp; omega) | omega) _).set_ne (a := ⟨w.heap.size + 1 + 1, 4, none⟩) (by first | (simp; done) | (simp; omega) | omega) _)
      replace HB : Has W2 (w.heap.size + 1) [.int .i64 (tb : Int), .bool false, .int .i64 ib, .string xb, .bool bb] 33 := by rw [hW2]; exact (((((HB.set_ne (a := ⟨w.heap.size + 1 + 1, 0, none⟩) (by first | (simp; done) | (simp; omega) | omega) _).set_ne (a := ⟨w.heap.size + 1 + 1, 1, none⟩) (by first | (simp; done) | (simp; omega) | omega) _).set_ne (a := ⟨w.heap.size + 1 + 1, 2, none⟩) (by first | (simp; done) | (simp; omega) | omega) _).set_ne (a := ⟨w.heap.size + 1 + 1, 3, none⟩) (by first | (simp; done) | (simp; omega) | omega) _).set_ne (a := ⟨w.heap.size + 1 + 1, 4, none⟩) (by first | (simp; done) | (simp; omega) | omega) _)
      replace HR : Has W2 (w.heap.size + 1 + 1) [.int .i64 0, .bool true, .int .i64 0, .string ⟨#[]⟩, .bool false] 33 := by rw [hW2]; exact (((((HR.set 0 (.int .i64 0)).set 1 (.bool true)).set 2 (.int .i64 0)).set 3 (.string ⟨#[]⟩)).set 4 (.bool false))
      have hbW2 : Below w.heap.size w W2 := by rw [hW2]; exact (((((hbw2.setCell (p := ⟨w.heap.size + 1 + 1, 0, none⟩) (by first | exact Nat.le_refl _ | (simp; omega) | omega) _).setCell (p := ⟨w.heap.size + 1 + 1, 1, none⟩) (by first | exact Nat.le_refl _ | (simp; omega) | omega) _).setCell (p := ⟨w.heap.size + 1 + 1, 2, none⟩) (by first | exact Nat.le_refl _ | (simp; omega) | omega) _).setCell (p := ⟨w.heap.size + 1 + 1, 3, none⟩) (by first | exact Nat.le_refl _ | (simp; omega) | omega) _).setCell (p := ⟨w.heap.size + 1 + 1, 4, none⟩) (by first | exact Nat.le_refl _ | (simp; omega) | omega) _)
      have hzW2 : W2.heap.size = w2.heap.size := by rw [hW2]; simp
      replace hW2 := Lib.hid hW2
      have hf : post (.returned (.agg #[.int .i64 0, .bool true, .int .i64 0, .string ⟨#[]⟩, .bool false])) W2 := by rw [← hpost.out, hres.out]; simp only [Bool.or_false, Bool.or_true, Bool.or_self, Bool.true_or, Bool.false_or, if_true, Bool.false_eq_true, if_false]; exact ⟨rfl, hbW2⟩
      replace hf := Lib.hid hf
      have r0 := Lib.hid (HR.cell (o := 0) rfl)
      have r1 := Lib.hid (HR.cell (o := 1) rfl)
      have r2 := Lib.hid (HR.cell (o := 2) rfl)
      have r3 := Lib.hid (HR.cell (o := 3) rfl)
      have r4 := Lib.hid (HR.cell (o := 4) rfl)
      replace hzW1 := Lib.hid hzW1
      replace hzW2 := Lib.hid hzW2
      go_wp2_with fail
      rw [show ((((w2.setCell ⟨w.heap.size + 1 + 1, 0, none⟩ (.int .i64 0)).setCell ⟨w.heap.size + 1 + 1, 1, none⟩ (.bool true)).setCell ⟨w.heap.size + 1 + 1, 2, none⟩ (.int .i64 0)).setCell ⟨w.heap.size + 1 + 1, 3, none⟩ (.string ⟨#[]⟩)).setCell ⟨w.heap.size + 1 + 1, 4, none⟩ (.bool false) = W2 from hW2.out.symm]
      exact bodyPost_ret (v := .agg #[.int .i64 0, .bool true, .int .i64 0, .string ⟨#[]⟩, .bool false]) (by simp [results, Tryz.results33, go_sem, r0.out, r1.out, r2.out, r3.out, r4.out]) rfl hf.out
    · clear cA0 cA1 cA2 cA3 cA4 cB0 cB1 cB2 cB3 cB4 cR0 cR1 cR2 cR3 cR4
      have cA0 := HA.cell (o := 0) rfl
      have cA1 := HA.cell (o := 1) rfl
      have cA2 := HA.cell (o := 2) rfl
      have cA3 := HA.cell (o := 3) rfl
      have cA4 := HA.cell (o := 4) rfl
      have cB0 := HB.cell (o := 0) rfl
      have cB1 := HB.cell (o := 1) rfl
      have cB2 := HB.cell (o := 2) rfl
      have cB3 := HB.cell (o := 3) rfl
      have cB4 := HB.cell (o := 4) rfl
      have cR0 := HR.cell (o := 0) rfl
      have cR1 := HR.cell (o := 1) rfl
      have cR2 := HR.cell (o := 2) rfl
      have cR3 := HR.cell (o := 3) rfl
      have cR4 := HR.cell (o := 4) rfl
      simp only [if_true, Bool.false_eq_true, if_false]
      replace hzW1 := Lib.hid hzW1
      go_wp2_with fail
      replace hzW1 := hzW1.out
      refine (hn.out _).mono ?_
      rintro e w2 ⟨rfl, hb2⟩
      replace HA : Has w2 (w.heap.size) [.int .i64 (ta : Int), .bool true, .int .i64 ia, .string xa, .bool ba] 33 := HA.only (Only.of_below hb2) (Nat.not_le.2 HA.lt)
      replace HB : Has w2 (w.heap.size + 1) [.int .i64 (tb : Int), .bool true, .int .i64 ib, .string xb, .bool bb] 33 := HB.only (Only.of_below hb2) (Nat.not_le.2 HB.lt)
      replace HR : Has w2 (w.heap.size + 1 + 1) [.int .i64 0, .bool false, .int .i64 0, .string ⟨#[]⟩, .bool false] 33 := HR.only (Only.of_below hb2) (Nat.not_le.2 HR.lt)
      have hbw2 : Below w.heap.size w w2 := hbw1.trans (hb2.mono hbw1.size)
      have hzw2 := hb2.size
      clear cA0 cA1 cA2 cA3 cA4 cB0 cB1 cB2 cB3 cB4 cR0 cR1 cR2 cR3 cR4
      have cA0 := HA.cell (o := 0) rfl
      have cA1 := HA.cell (o := 1) rfl
      have cA2 := HA.cell (o := 2) rfl
      have cA3 := HA.cell (o := 3) rfl
      have cA4 := HA.cell (o := 4) rfl
      have cB0 := HB.cell (o := 0) rfl
      have cB1 := HB.cell (o := 1) rfl
      have cB2 := HB.cell (o := 2) rfl
      have cB3 := HB.cell (o := 3) rfl
      have cB4 := HB.cell (o := 4) rfl
      have cR0 := HR.cell (o := 0) rfl
      have cR1 := HR.cell (o := 1) rfl
      have cR2 := HR.cell (o := 2) rfl
      have cR3 := HR.cell (o := 3) rfl
      have cR4 := HR.cell (o := 4) rfl
      have fR0 := HR.free 0
      have fR1 := HR.free 1
      have fR2 := HR.free 2
      have fR3 := HR.free 3
      have fR4 := HR.free 4
      replace hb2 := Lib.hid hb2
      obtain ⟨W2, hW2⟩ : ∃ W2, W2 = ((((w2.setCell ⟨w.heap.size + 1 + 1, 0, none⟩ (.int .i64 0)).setCell ⟨w.heap.size + 1 + 1, 1, none⟩ (.bool true)).setCell ⟨w.heap.size + 1 + 1, 2, none⟩ (.int .i64 0)).setCell ⟨w.heap.size + 1 + 1, 3, none⟩ (.string ⟨#[]⟩)).setCell ⟨w.heap.size + 1 + 1, 4, none⟩ (.bool false) := ⟨_, rfl⟩
      replace HA : Has W2 (w.heap.size) [.int .i64 (ta : Int), .bool true, .int .i64 ia, .string xa, .bool ba] 33 := by rw [hW2]; exact (((((HA.set_ne (a := ⟨w.heap.size + 1 + 1, 0, none⟩) (by first | (simp; done) | (simp; omega) | omega) _).set_ne (a := ⟨w.heap.size + 1 + 1, 1, none⟩) (by first | (simp; done) | (simp; omega) | omega) _).set_ne (a := ⟨w.heap.size + 1 + 1, 2, none⟩) (by first | (simp; done) | (simp; omega) | omega) _).set_ne (a := ⟨w.heap.size + 1 + 1, 3, none⟩) (by first | (simp; done) | (simp; omega) | omega) _).set_ne (a := ⟨w.heap.size + 1 + 1, 4, none⟩) (by first | (simp; done) | (simp; omega) | omega) _)
      replace HB : Has W2 (w.heap.size + 1) [.int .i64 (tb : Int), .bool true, .int .i64 ib, .string xb, .bool bb] 33 := by rw [hW2]; exact (((((HB.set_ne (a := ⟨w.heap.size + 1 + 1, 0, none⟩) (by first | (simp; done) | (simp; omega) | omega) _).set_ne (a := ⟨w.heap.size + 1 + 1, 1, none⟩) (by first | (simp; done) | (simp; omega) | omega) _).set_ne (a := ⟨w.heap.size + 1 + 1, 2, none⟩) (by first | (simp; done) | (simp; omega) | omega) _).set_ne (a := ⟨w.heap.size + 1 + 1, 3, none⟩) (by first | (simp; done) | (simp; omega) | omega) _).set_ne (a := ⟨w.heap.size + 1 + 1, 4, none⟩) (by first | (simp; done) | (simp; omega) | omega) _)
      replace HR : Has W2 (w.heap.size + 1 + 1) [.int .i64 0, .bool true, .int .i64 0, .string ⟨#[]⟩, .bool false] 33 := by rw [hW2]; exact (((((HR.set 0 (.int .i64 0)).set 1 (.bool true)).set 2 (.int .i64 0)).set 3 (.string ⟨#[]⟩)).set 4 (.bool false))
      have hbW2 : Below w.heap.size w W2 := by rw [hW2]; exact (((((hbw2.setCell (p := ⟨w.heap.size + 1 + 1, 0, none⟩) (by first | exact Nat.le_refl _ | (simp; omega) | omega) _).setCell (p := ⟨w.heap.size + 1 + 1, 1, none⟩) (by first | exact Nat.le_refl _ | (simp; omega) | omega) _).setCell (p := ⟨w.heap.size + 1 + 1, 2, none⟩) (by first | exact Nat.le_refl _ | (simp; omega) | omega) _).setCell (p := ⟨w.heap.size + 1 + 1, 3, none⟩) (by first | exact Nat.le_refl _ | (simp; omega) | omega) _).setCell (p := ⟨w.heap.size + 1 + 1, 4, none⟩) (by first | exact Nat.le_refl _ | (simp; omega) | omega) _)
      have hzW2 : W2.heap.size = w2.heap.size := by rw [hW2]; simp
      replace hW2 := Lib.hid hW2
      have hf : post (.returned (.agg #[.int .i64 0, .bool true, .int .i64 0, .string ⟨#[]⟩, .bool false])) W2 := by rw [← hpost.out, hres.out]; simp only [Bool.or_false, Bool.or_true, Bool.or_self, Bool.true_or, Bool.false_or, if_true, Bool.false_eq_true, if_false]; exact ⟨rfl, hbW2⟩
      replace hf := Lib.hid hf
      have r0 := Lib.hid (HR.cell (o := 0) rfl)
      have r1 := Lib.hid (HR.cell (o := 1) rfl)
      have r2 := Lib.hid (HR.cell (o := 2) rfl)
      have r3 := Lib.hid (HR.cell (o := 3) rfl)
      have r4 := Lib.hid (HR.cell (o := 4) rfl)
      replace hzW1 := Lib.hid hzW1
      replace hzW2 := Lib.hid hzW2
      go_wp2_with fail
      rw [show ((((w2.setCell ⟨w.heap.size + 1 + 1, 0, none⟩ (.int .i64 0)).setCell ⟨w.heap.size + 1 + 1, 1, none⟩ (.bool true)).setCell ⟨w.heap.size + 1 + 1, 2, none⟩ (.int .i64 0)).setCell ⟨w.heap.size + 1 + 1, 3, none⟩ (.string ⟨#[]⟩)).setCell ⟨w.heap.size + 1 + 1, 4, none⟩ (.bool false) = W2 from hW2.out.symm]
      exact bodyPost_ret (v := .agg #[.int .i64 0, .bool true, .int .i64 0, .string ⟨#[]⟩, .bool false]) (by simp [results, Tryz.results33, go_sem, r0.out, r1.out, r2.out, r3.out, r4.out]) rfl hf.out
  | false =>
    cases nb with
    | true =>
      cases cb
      · clear cA0 cA1 cA2 cA3 cA4 cB0 cB1 cB2 cB3 cB4 cR0 cR1 cR2 cR3 cR4
        have cA0 := HA.cell (o := 0) rfl
        have cA1 := HA.cell (o := 1) rfl
        have cA2 := HA.cell (o := 2) rfl
        have cA3 := HA.cell (o := 3) rfl
        have cA4 := HA.cell (o := 4) rfl
        have cB0 := HB.cell (o := 0) rfl
        have cB1 := HB.cell (o := 1) rfl
        have cB2 := HB.cell (o := 2) rfl
        have cB3 := HB.cell (o := 3) rfl
        have cB4 := HB.cell (o := 4) rfl
        have cR0 := HR.cell (o := 0) rfl
        have cR1 := HR.cell (o := 1) rfl
        have cR2 := HR.cell (o := 2) rfl
        have cR3 := HR.cell (o := 3) rfl
        have cR4 := HR.cell (o := 4) rfl
        simp only [if_true, Bool.false_eq_true, if_false]
        replace hzW1 := Lib.hid hzW1
        go_wp2_with fail
        replace hzW1 := hzW1.out
        refine (hn.out _).mono ?_
        rintro e w2 ⟨rfl, hb2⟩
        replace HA : Has w2 (w.heap.size) [.int .i64 (ta : Int), .bool false, .int .i64 ia, .string xa, .bool ba] 33 := HA.only (Only.of_below hb2) (Nat.not_le.2 HA.lt)
        replace HB : Has w2 (w.heap.size + 1) [.int .i64 (tb : Int), .bool true, .int .i64 ib, .string xb, .bool bb] 33 := HB.only (Only.of_below hb2) (Nat.not_le.2 HB.lt)
        replace HR : Has w2 (w.heap.size + 1 + 1) [.int .i64 0, .bool false, .int .i64 0, .string ⟨#[]⟩, .bool false] 33 := HR.only (Only.of_below hb2) (Nat.not_le.2 HR.lt)
        have hbw2 : Below w.heap.size w w2 := hbw1.trans (hb2.mono hbw1.size)
        have hzw2 := hb2.size
        clear cA0 cA1 cA2 cA3 cA4 cB0 cB1 cB2 cB3 cB4 cR0 cR1 cR2 cR3 cR4
        have cA0 := HA.cell (o := 0) rfl
        have cA1 := HA.cell (o := 1) rfl
        have cA2 := HA.cell (o := 2) rfl
        have cA3 := HA.cell (o := 3) rfl
        have cA4 := HA.cell (o := 4) rfl
        have cB0 := HB.cell (o := 0) rfl
        have cB1 := HB.cell (o := 1) rfl
        have cB2 := HB.cell (o := 2) rfl
        have cB3 := HB.cell (o := 3) rfl
        have cB4 := HB.cell (o := 4) rfl
        have cR0 := HR.cell (o := 0) rfl
        have cR1 := HR.cell (o := 1) rfl
        have cR2 := HR.cell (o := 2) rfl
        have cR3 := HR.cell (o := 3) rfl
        have cR4 := HR.cell (o := 4) rfl
        have fR0 := HR.free 0
        have fR1 := HR.free 1
        have fR2 := HR.free 2
        have fR3 := HR.free 3
        have fR4 := HR.free 4
        replace hb2 := Lib.hid hb2
        obtain ⟨W2, hW2⟩ : ∃ W2, W2 = ((((w2.setCell ⟨w.heap.size + 1 + 1, 0, none⟩ (.int .i64 0)).setCell ⟨w.heap.size + 1 + 1, 1, none⟩ (.bool true)).setCell ⟨w.heap.size + 1 + 1, 2, none⟩ (.int .i64 0)).setCell ⟨w.heap.size + 1 + 1, 3, none⟩ (.string ⟨#[]⟩)).setCell ⟨w.heap.size + 1 + 1, 4, none⟩ (.bool false) := ⟨_, rfl⟩
        replace HA : Has W2 (w.heap.size) [.int .i64 (ta : Int), .bool false, .int .i64 ia, .string xa, .bool ba] 33 := by rw [hW2]; exact (((((HA.set_ne (a := ⟨w.heap.size + 1 + 1, 0, none⟩) (by first | (simp; done) | (simp; omega) | omega) _).set_ne (a := ⟨w.heap.size + 1 + 1, 1, none⟩) (by first | (simp; done) | (simp; omega) | omega) _).set_ne (a := ⟨w.heap.size + 1 + 1, 2, none⟩) (by first | (simp; done) | (simp; omega) | omega) _).set_ne (a := ⟨w.heap.size + 1 + 1, 3, none⟩) (by first | (simp; done) | (simp; omega) | omega) _).set_ne (a := ⟨w.heap.size + 1 + 1, 4, none⟩) (by first | (simp; done) | (simp; omega) | omega) _)
        replace HB : Has W2 (w.heap.size + 1) [.int .i64 (tb : Int), .bool true, .int .i64 ib, .string xb, .bool bb] 33 := by rw [hW2]; exact (((((HB.set_ne (a := ⟨w.heap.size + 1 + 1, 0, none⟩) (by first | (simp; done) | (simp; omega) | omega) _).set_ne (a := ⟨w.heap.size + 1 + 1, 1, none⟩) (by first | (simp; done) | (simp; omega) | omega) _).set_ne (a := ⟨w.heap.size + 1 + 1, 2, none⟩) (by first | (simp; done) | (simp; omega) | omega) _).set_ne (a := ⟨w.heap.size + 1 + 1, 3, none⟩) (by first | (simp; done) | (simp; omega) | omega) _).set_ne (a := ⟨w.heap.size + 1 + 1, 4, none⟩) (by first | (simp; done) | (simp; omega) | omega) _)
        replace HR : Has W2 (w.heap.size + 1 + 1) [.int .i64 0, .bool true, .int .i64 0, .string ⟨#[]⟩, .bool false] 33 := by rw [hW2]; exact (((((HR.set 0 (.int .i64 0)).set 1 (.bool true)).set 2 (.int .i64 0)).set 3 (.string ⟨#[]⟩)).set 4 (.bool false))
        have hbW2 : Below w.heap.size w W2 := by rw [hW2]; exact (((((hbw2.setCell (p := ⟨w.heap.size + 1 + 1, 0, none⟩) (by first | exact Nat.le_refl _ | (simp; omega) | omega) _).setCell (p := ⟨w.heap.size + 1 + 1, 1, none⟩) (by first | exact Nat.le_refl _ | (simp; omega) | omega) _).setCell (p := ⟨w.heap.size + 1 + 1, 2, none⟩) (by first | exact Nat.le_refl _ | (simp; omega) | omega) _).setCell (p := ⟨w.heap.size + 1 + 1, 3, none⟩) (by first | exact Nat.le_refl _ | (simp; omega) | omega) _).setCell (p := ⟨w.heap.size + 1 + 1, 4, none⟩) (by first | exact Nat.le_refl _ | (simp; omega) | omega) _)
        have hzW2 : W2.heap.size = w2.heap.size := by rw [hW2]; simp
        replace hW2 := Lib.hid hW2
        have hf : post (.returned (.agg #[.int .i64 0, .bool true, .int .i64 0, .string ⟨#[]⟩, .bool false])) W2 := by rw [← hpost.out, hres.out]; simp only [Bool.or_false, Bool.or_true, Bool.or_self, Bool.true_or, Bool.false_or, if_true, Bool.false_eq_true, if_false]; exact ⟨rfl, hbW2⟩
        replace hf := Lib.hid hf
        have r0 := Lib.hid (HR.cell (o := 0) rfl)
        have r1 := Lib.hid (HR.cell (o := 1) rfl)
        have r2 := Lib.hid (HR.cell (o := 2) rfl)
        have r3 := Lib.hid (HR.cell (o := 3) rfl)
        have r4 := Lib.hid (HR.cell (o := 4) rfl)
        replace hzW1 := Lib.hid hzW1
        replace hzW2 := Lib.hid hzW2
        go_wp2_with fail
        rw [show ((((w2.setCell ⟨w.heap.size + 1 + 1, 0, none⟩ (.int .i64 0)).setCell ⟨w.heap.size + 1 + 1, 1, none⟩ (.bool true)).setCell ⟨w.heap.size + 1 + 1, 2, none⟩ (.int .i64 0)).setCell ⟨w.heap.size + 1 + 1, 3, none⟩ (.string ⟨#[]⟩)).setCell ⟨w.heap.size + 1 + 1, 4, none⟩ (.bool false) = W2 from hW2.out.symm]
        exact bodyPost_ret (v := .agg #[.int .i64 0, .bool true, .int .i64 0, .string ⟨#[]⟩, .bool false]) (by simp [results, Tryz.results33, go_sem, r0.out, r1.out, r2.out, r3.out, r4.out]) rfl hf.out
      · clear cA0 cA1 cA2 cA3 cA4 cB0 cB1 cB2 cB3 cB4 cR0 cR1 cR2 cR3 cR4
        have cA0 := HA.cell (o := 0) rfl
        have cA1 := HA.cell (o := 1) rfl
        have cA2 := HA.cell (o := 2) rfl
        have cA3 := HA.cell (o := 3) rfl
        have cA4 := HA.cell (o := 4) rfl
        have cB0 := HB.cell (o := 0) rfl
        have cB1 := HB.cell (o := 1) rfl
        have cB2 := HB.cell (o := 2) rfl
        have cB3 := HB.cell (o := 3) rfl
        have cB4 := HB.cell (o := 4) rfl
        have cR0 := HR.cell (o := 0) rfl
        have cR1 := HR.cell (o := 1) rfl
        have cR2 := HR.cell (o := 2) rfl
        have cR3 := HR.cell (o := 3) rfl
        have cR4 := HR.cell (o := 4) rfl
        simp only [if_true, Bool.false_eq_true, if_false]
        replace hzW1 := Lib.hid hzW1
        go_wp2_with fail
        replace hzW1 := hzW1.out
        refine (hn.out _).mono ?_
        rintro e w2 ⟨rfl, hb2⟩
        replace HA : Has w2 (w.heap.size) [.int .i64 (ta : Int), .bool false, .int .i64 ia, .string xa, .bool ba] 33 := HA.only (Only.of_below hb2) (Nat.not_le.2 HA.lt)
        replace HB : Has w2 (w.heap.size + 1) [.int .i64 (tb : Int), .bool true, .int .i64 ib, .string xb, .bool bb] 33 := HB.only (Only.of_below hb2) (Nat.not_le.2 HB.lt)
        replace HR : Has w2 (w.heap.size + 1 + 1) [.int .i64 0, .bool false, .int .i64 0, .string ⟨#[]⟩, .bool false] 33 := HR.only (Only.of_below hb2) (Nat.not_le.2 HR.lt)
        have hbw2 : Below w.heap.size w w2 := hbw1.trans (hb2.mono hbw1.size)
        have hzw2 := hb2.size
        clear cA0 cA1 cA2 cA3 cA4 cB0 cB1 cB2 cB3 cB4 cR0 cR1 cR2 cR3 cR4
        have cA0 := HA.cell (o := 0) rfl
        have cA1 := HA.cell (o := 1) rfl
        have cA2 := HA.cell (o := 2) rfl
        have cA3 := HA.cell (o := 3) rfl
        have cA4 := HA.cell (o := 4) rfl
        have cB0 := HB.cell (o := 0) rfl
        have cB1 := HB.cell (o := 1) rfl
        have cB2 := HB.cell (o := 2) rfl
        have cB3 := HB.cell (o := 3) rfl
        have cB4 := HB.cell (o := 4) rfl
        have cR0 := HR.cell (o := 0) rfl
        have cR1 := HR.cell (o := 1) rfl
        have cR2 := HR.cell (o := 2) rfl
        have cR3 := HR.cell (o := 3) rfl
        have cR4 := HR.cell (o := 4) rfl
        have fR0 := HR.free 0
        have fR1 := HR.free 1
        have fR2 := HR.free 2
        have fR3 := HR.free 3
        have fR4 := HR.free 4
        replace hb2 := Lib.hid hb2
        obtain ⟨W2, hW2⟩ : ∃ W2, W2 = ((((w2.setCell ⟨w.heap.size + 1 + 1, 0, none⟩ (.int .i64 0)).setCell ⟨w.heap.size + 1 + 1, 1, none⟩ (.bool true)).setCell ⟨w.heap.size + 1 + 1, 2, none⟩ (.int .i64 0)).setCell ⟨w.heap.size + 1 + 1, 3, none⟩ (.string ⟨#[]⟩)).setCell ⟨w.heap.size + 1 + 1, 4, none⟩ (.bool false) := ⟨_, rfl⟩
        replace HA : Has W2 (w.heap.size) [.int .i64 (ta : Int), .bool false, .int .i64 ia, .string xa, .bool ba] 33 := by rw [hW2]; exact (((((HA.set_ne (a := ⟨w.heap.size + 1 + 1, 0, none⟩) (by first | (simp; done) | (simp; omega) | omega) _).set_ne (a := ⟨w.heap.size + 1 + 1, 1, none⟩) (by first | (simp; done) | (simp; omega) | omega) _).set_ne (a := ⟨w.heap.size + 1 + 1, 2, none⟩) (by first | (simp; done) | (simp; omega) | omega) _).set_ne (a := ⟨w.heap.size + 1 + 1, 3, none⟩) (by first | (simp; done) | (simp; omega) | omega) _).set_ne (a := ⟨w.heap.size + 1 + 1, 4, none⟩) (by first | (simp; done) | (simp; omega) | omega) _)
        replace HB : Has W2 (w.heap.size + 1) [.int .i64 (tb : Int), .bool true, .int .i64 ib, .string xb, .bool bb] 33 := by rw [hW2]; exact (((((HB.set_ne (a := ⟨w.heap.size + 1 + 1, 0, none⟩) (by first | (simp; done) | (simp; omega) | omega) _).set_ne (a := ⟨w.heap.size + 1 + 1, 1, none⟩) (by first | (simp; done) | (simp; omega) | omega) _).set_ne (a := ⟨w.heap.size + 1 + 1, 2, none⟩) (by first | (simp; done) | (simp; omega) | omega) _).set_ne (a := ⟨w.heap.size + 1 + 1, 3, none⟩) (by first | (simp; done) | (simp; omega) | omega) _).set_ne (a := ⟨w.heap.size + 1 + 1, 4, none⟩) (by first | (simp; done) | (simp; omega) | omega) _)
        replace HR : Has W2 (w.heap.size + 1 + 1) [.int .i64 0, .bool true, .int .i64 0, .string ⟨#[]⟩, .bool false] 33 := by rw [hW2]; exact (((((HR.set 0 (.int .i64 0)).set 1 (.bool true)).set 2 (.int .i64 0)).set 3 (.string ⟨#[]⟩)).set 4 (.bool false))
        have hbW2 : Below w.heap.size w W2 := by rw [hW2]; exact (((((hbw2.setCell (p := ⟨w.heap.size + 1 + 1, 0, none⟩) (by first | exact Nat.le_refl _ | (simp; omega) | omega) _).setCell (p := ⟨w.heap.size + 1 + 1, 1, none⟩) (by first | exact Nat.le_refl _ | (simp; omega) | omega) _).setCell (p := ⟨w.heap.size + 1 + 1, 2, none⟩) (by first | exact Nat.le_refl _ | (simp; omega) | omega) _).setCell (p := ⟨w.heap.size + 1 + 1, 3, none⟩) (by first | exact Nat.le_refl _ | (simp; omega) | omega) _).setCell (p := ⟨w.heap.size + 1 + 1, 4, none⟩) (by first | exact Nat.le_refl _ | (simp; omega) | omega) _)
        have hzW2 : W2.heap.size = w2.heap.size := by rw [hW2]; simp
        replace hW2 := Lib.hid hW2
        have hf : post (.returned (.agg #[.int .i64 0, .bool true, .int .i64 0, .string ⟨#[]⟩, .bool false])) W2 := by rw [← hpost.out, hres.out]; simp only [Bool.or_false, Bool.or_true, Bool.or_self, Bool.true_or, Bool.false_or, if_true, Bool.false_eq_true, if_false]; exact ⟨rfl, hbW2⟩
        replace hf := Lib.hid hf
        have r0 := Lib.hid (HR.cell (o := 0) rfl)
        have r1 := Lib.hid (HR.cell (o := 1) rfl)
        have r2 := Lib.hid (HR.cell (o := 2) rfl)
        have r3 := Lib.hid (HR.cell (o := 3) rfl)
        have r4 := Lib.hid (HR.cell (o := 4) rfl)
        replace hzW1 := Lib.hid hzW1
        replace hzW2 := Lib.hid hzW2
        go_wp2_with fail
        rw [show ((((w2.setCell ⟨w.heap.size + 1 + 1, 0, none⟩ (.int .i64 0)).setCell ⟨w.heap.size + 1 + 1, 1, none⟩ (.bool true)).setCell ⟨w.heap.size + 1 + 1, 2, none⟩ (.int .i64 0)).setCell ⟨w.heap.size + 1 + 1, 3, none⟩ (.string ⟨#[]⟩)).setCell ⟨w.heap.size + 1 + 1, 4, none⟩ (.bool false) = W2 from hW2.out.symm]
        exact bodyPost_ret (v := .agg #[.int .i64 0, .bool true, .int .i64 0, .string ⟨#[]⟩, .bool false]) (by simp [results, Tryz.results33, go_sem, r0.out, r1.out, r2.out, r3.out, r4.out]) rfl hf.out
    | false =>
      cases cb
      · clear cA0 cA1 cA2 cA3 cA4 cB0 cB1 cB2 cB3 cB4 cR0 cR1 cR2 cR3 cR4
        have cA0 := HA.cell (o := 0) rfl
        have cA1 := HA.cell (o := 1) rfl
        have cA2 := HA.cell (o := 2) rfl
        have cA3 := HA.cell (o := 3) rfl
        have cA4 := HA.cell (o := 4) rfl
        have cB0 := HB.cell (o := 0) rfl
        have cB1 := HB.cell (o := 1) rfl
        have cB2 := HB.cell (o := 2) rfl
        have cB3 := HB.cell (o := 3) rfl
        have cB4 := HB.cell (o := 4) rfl
        have cR0 := HR.cell (o := 0) rfl
        have cR1 := HR.cell (o := 1) rfl
        have cR2 := HR.cell (o := 2) rfl
        have cR3 := HR.cell (o := 3) rfl
        have cR4 := HR.cell (o := 4) rfl
        simp only [if_true, Bool.false_eq_true, if_false]
        replace hzW1 := Lib.hid hzW1
        go_wp2_with fail
        replace hzW1 := hzW1.out
        refine (hp.out _).mono ?_
        rintro e w2 ⟨rfl, hb2⟩
        replace HA : Has w2 (w.heap.size) [.int .i64 (ta : Int), .bool false, .int .i64 ia, .string xa, .bool ba] 33 := HA.only (Only.of_below hb2) (Nat.not_le.2 HA.lt)
        replace HB : Has w2 (w.heap.size + 1) [.int .i64 (tb : Int), .bool false, .int .i64 ib, .string xb, .bool bb] 33 := HB.only (Only.of_below hb2) (Nat.not_le.2 HB.lt)
        replace HR : Has w2 (w.heap.size + 1 + 1) [.int .i64 0, .bool false, .int .i64 0, .string ⟨#[]⟩, .bool false] 33 := HR.only (Only.of_below hb2) (Nat.not_le.2 HR.lt)
        have hbw2 : Below w.heap.size w w2 := hbw1.trans (hb2.mono hbw1.size)
        have hzw2 := hb2.size
        clear cA0 cA1 cA2 cA3 cA4 cB0 cB1 cB2 cB3 cB4 cR0 cR1 cR2 cR3 cR4
        have cA0 := HA.cell (o := 0) rfl
        have cA1 := HA.cell (o := 1) rfl
        have cA2 := HA.cell (o := 2) rfl
        have cA3 := HA.cell (o := 3) rfl
        have cA4 := HA.cell (o := 4) rfl
        have cB0 := HB.cell (o := 0) rfl
        have cB1 := HB.cell (o := 1) rfl
        have cB2 := HB.cell (o := 2) rfl
        have cB3 := HB.cell (o := 3) rfl
        have cB4 := HB.cell (o := 4) rfl
        have cR0 := HR.cell (o := 0) rfl
        have cR1 := HR.cell (o := 1) rfl
        have cR2 := HR.cell (o := 2) rfl
        have cR3 := HR.cell (o := 3) rfl
        have cR4 := HR.cell (o := 4) rfl
        have fR0 := HR.free 0
        have fR1 := HR.free 1
        have fR2 := HR.free 2
        have fR3 := HR.free 3
        have fR4 := HR.free 4
        replace hb2 := Lib.hid hb2
        obtain ⟨W2, hW2⟩ : ∃ W2, W2 = ((((w2.setCell ⟨w.heap.size + 1 + 1, 0, none⟩ (.int .i64 (tr : Int))).setCell ⟨w.heap.size + 1 + 1, 1, none⟩ (.bool nr)).setCell ⟨w.heap.size + 1 + 1, 2, none⟩ (.int .i64 ir)).setCell ⟨w.heap.size + 1 + 1, 3, none⟩ (.string xr)).setCell ⟨w.heap.size + 1 + 1, 4, none⟩ (.bool br) := ⟨_, rfl⟩
        replace HA : Has W2 (w.heap.size) [.int .i64 (ta : Int), .bool false, .int .i64 ia, .string xa, .bool ba] 33 := by rw [hW2]; exact (((((HA.set_ne (a := ⟨w.heap.size + 1 + 1, 0, none⟩) (by first | (simp; done) | (simp; omega) | omega) _).set_ne (a := ⟨w.heap.size + 1 + 1, 1, none⟩) (by first | (simp; done) | (simp; omega) | omega) _).set_ne (a := ⟨w.heap.size + 1 + 1, 2, none⟩) (by first | (simp; done) | (simp; omega) | omega) _).set_ne (a := ⟨w.heap.size + 1 + 1, 3, none⟩) (by first | (simp; done) | (simp; omega) | omega) _).set_ne (a := ⟨w.heap.size + 1 + 1, 4, none⟩) (by first | (simp; done) | (simp; omega) | omega) _)
        replace HB : Has W2 (w.heap.size + 1) [.int .i64 (tb : Int), .bool false, .int .i64 ib, .string xb, .bool bb] 33 := by rw [hW2]; exact (((((HB.set_ne (a := ⟨w.heap.size + 1 + 1, 0, none⟩) (by first | (simp; done) | (simp; omega) | omega) _).set_ne (a := ⟨w.heap.size + 1 + 1, 1, none⟩) (by first | (simp; done) | (simp; omega) | omega) _).set_ne (a := ⟨w.heap.size + 1 + 1, 2, none⟩) (by first | (simp; done) | (simp; omega) | omega) _).set_ne (a := ⟨w.heap.size + 1 + 1, 3, none⟩) (by first | (simp; done) | (simp; omega) | omega) _).set_ne (a := ⟨w.heap.size + 1 + 1, 4, none⟩) (by first | (simp; done) | (simp; omega) | omega) _)
        replace HR : Has W2 (w.heap.size + 1 + 1) [.int .i64 (tr : Int), .bool nr, .int .i64 ir, .string xr, .bool br] 33 := by rw [hW2]; exact (((((HR.set 0 (.int .i64 (tr : Int))).set 1 (.bool nr)).set 2 (.int .i64 ir)).set 3 (.string xr)).set 4 (.bool br))
        have hbW2 : Below w.heap.size w W2 := by rw [hW2]; exact (((((hbw2.setCell (p := ⟨w.heap.size + 1 + 1, 0, none⟩) (by first | exact Nat.le_refl _ | (simp; omega) | omega) _).setCell (p := ⟨w.heap.size + 1 + 1, 1, none⟩) (by first | exact Nat.le_refl _ | (simp; omega) | omega) _).setCell (p := ⟨w.heap.size + 1 + 1, 2, none⟩) (by first | exact Nat.le_refl _ | (simp; omega) | omega) _).setCell (p := ⟨w.heap.size + 1 + 1, 3, none⟩) (by first | exact Nat.le_refl _ | (simp; omega) | omega) _).setCell (p := ⟨w.heap.size + 1 + 1, 4, none⟩) (by first | exact Nat.le_refl _ | (simp; omega) | omega) _)
        have hzW2 : W2.heap.size = w2.heap.size := by rw [hW2]; simp
        replace hW2 := Lib.hid hW2
        have hf : post (.returned (.agg #[.int .i64 (tr : Int), .bool nr, .int .i64 ir, .string xr, .bool br])) W2 := by rw [← hpost.out, hres.out]; simp only [Bool.or_false, Bool.or_true, Bool.or_self, Bool.true_or, Bool.false_or, if_true, Bool.false_eq_true, if_false]; exact ⟨rfl, hbW2⟩
        replace hf := Lib.hid hf
        have r0 := Lib.hid (HR.cell (o := 0) rfl)
        have r1 := Lib.hid (HR.cell (o := 1) rfl)
        have r2 := Lib.hid (HR.cell (o := 2) rfl)
        have r3 := Lib.hid (HR.cell (o := 3) rfl)
        have r4 := Lib.hid (HR.cell (o := 4) rfl)
        replace hzW1 := Lib.hid hzW1
        replace hzW2 := Lib.hid hzW2
        go_wp2_with fail
        rw [show ((((w2.setCell ⟨w.heap.size + 1 + 1, 0, none⟩ (.int .i64 (tr : Int))).setCell ⟨w.heap.size + 1 + 1, 1, none⟩ (.bool nr)).setCell ⟨w.heap.size + 1 + 1, 2, none⟩ (.int .i64 ir)).setCell ⟨w.heap.size + 1 + 1, 3, none⟩ (.string xr)).setCell ⟨w.heap.size + 1 + 1, 4, none⟩ (.bool br) = W2 from hW2.out.symm]
        exact bodyPost_ret (v := .agg #[.int .i64 (tr : Int), .bool nr, .int .i64 ir, .string xr, .bool br]) (by simp [results, Tryz.results33, go_sem, r0.out, r1.out, r2.out, r3.out, r4.out]) rfl hf.out
      · clear cA0 cA1 cA2 cA3 cA4 cB0 cB1 cB2 cB3 cB4 cR0 cR1 cR2 cR3 cR4
        have cA0 := HA.cell (o := 0) rfl
        have cA1 := HA.cell (o := 1) rfl
        have cA2 := HA.cell (o := 2) rfl
        have cA3 := HA.cell (o := 3) rfl
        have cA4 := HA.cell (o := 4) rfl
        have cB0 := HB.cell (o := 0) rfl
        have cB1 := HB.cell (o := 1) rfl
        have cB2 := HB.cell (o := 2) rfl
        have cB3 := HB.cell (o := 3) rfl
        have cB4 := HB.cell (o := 4) rfl
        have cR0 := HR.cell (o := 0) rfl
        have cR1 := HR.cell (o := 1) rfl
        have cR2 := HR.cell (o := 2) rfl
        have cR3 := HR.cell (o := 3) rfl
        have cR4 := HR.cell (o := 4) rfl
        simp only [if_true, Bool.false_eq_true, if_false]
        replace hzW1 := Lib.hid hzW1
        go_wp2_with fail
        replace hzW1 := hzW1.out
        refine (hn.out _).mono ?_
        rintro e w2 ⟨rfl, hb2⟩
        replace HA : Has w2 (w.heap.size) [.int .i64 (ta : Int), .bool false, .int .i64 ia, .string xa, .bool ba] 33 := HA.only (Only.of_below hb2) (Nat.not_le.2 HA.lt)
        replace HB : Has w2 (w.heap.size + 1) [.int .i64 (tb : Int), .bool false, .int .i64 ib, .string xb, .bool bb] 33 := HB.only (Only.of_below hb2) (Nat.not_le.2 HB.lt)
        replace HR : Has w2 (w.heap.size + 1 + 1) [.int .i64 0, .bool false, .int .i64 0, .string ⟨#[]⟩, .bool false] 33 := HR.only (Only.of_below hb2) (Nat.not_le.2 HR.lt)
        have hbw2 : Below w.heap.size w w2 := hbw1.trans (hb2.mono hbw1.size)
        have hzw2 := hb2.size
        clear cA0 cA1 cA2 cA3 cA4 cB0 cB1 cB2 cB3 cB4 cR0 cR1 cR2 cR3 cR4
        have cA0 := HA.cell (o := 0) rfl
        have cA1 := HA.cell (o := 1) rfl
        have cA2 := HA.cell (o := 2) rfl
        have cA3 := HA.cell (o := 3) rfl
        have cA4 := HA.cell (o := 4) rfl
        have cB0 := HB.cell (o := 0) rfl
        have cB1 := HB.cell (o := 1) rfl
        have cB2 := HB.cell (o := 2) rfl
        have cB3 := HB.cell (o := 3) rfl
        have cB4 := HB.cell (o := 4) rfl
        have cR0 := HR.cell (o := 0) rfl
        have cR1 := HR.cell (o := 1) rfl
        have cR2 := HR.cell (o := 2) rfl
        have cR3 := HR.cell (o := 3) rfl
        have cR4 := HR.cell (o := 4) rfl
        have fR0 := HR.free 0
        have fR1 := HR.free 1
        have fR2 := HR.free 2
        have fR3 := HR.free 3
        have fR4 := HR.free 4
        replace hb2 := Lib.hid hb2
        obtain ⟨W2, hW2⟩ : ∃ W2, W2 = ((((w2.setCell ⟨w.heap.size + 1 + 1, 0, none⟩ (.int .i64 0)).setCell ⟨w.heap.size + 1 + 1, 1, none⟩ (.bool true)).setCell ⟨w.heap.size + 1 + 1, 2, none⟩ (.int .i64 0)).setCell ⟨w.heap.size + 1 + 1, 3, none⟩ (.string ⟨#[]⟩)).setCell ⟨w.heap.size + 1 + 1, 4, none⟩ (.bool false) := ⟨_, rfl⟩
        replace HA : Has W2 (w.heap.size) [.int .i64 (ta : Int), .bool false, .int .i64 ia, .string xa, .bool ba] 33 := by rw [hW2]; exact (((((HA.set_ne (a := ⟨w.heap.size + 1 + 1, 0, none⟩) (by first | (simp; done) | (simp; omega) | omega) _).set_ne (a := ⟨w.heap.size + 1 + 1, 1, none⟩) (by first | (simp; done) | (simp; omega) | omega) _).set_ne (a := ⟨w.heap.size + 1 + 1, 2, none⟩) (by first | (simp; done) | (simp; omega) | omega) _).set_ne (a := ⟨w.heap.size + 1 + 1, 3, none⟩) (by first | (simp; done) | (simp; omega) | omega) _).set_ne (a := ⟨w.heap.size + 1 + 1, 4, none⟩) (by first | (simp; done) | (simp; omega) | omega) _)
        replace HB : Has W2 (w.heap.size + 1) [.int .i64 (tb : Int), .bool false, .int .i64 ib, .string xb, .bool bb] 33 := by rw [hW2]; exact (((((HB.set_ne (a := ⟨w.heap.size + 1 + 1, 0, none⟩) (by first | (simp; done) | (simp; omega) | omega) _).set_ne (a := ⟨w.heap.size + 1 + 1, 1, none⟩) (by first | (simp; done) | (simp; omega) | omega) _).set_ne (a := ⟨w.heap.size + 1 + 1, 2, none⟩) (by first | (simp; done) | (simp; omega) | omega) _).set_ne (a := ⟨w.heap.size + 1 + 1, 3, none⟩) (by first | (simp; done) | (simp; omega) | omega) _).set_ne (a := ⟨w.heap.size + 1 + 1, 4, none⟩) (by first | (simp; done) | (simp; omega) | omega) _)
        replace HR : Has W2 (w.heap.size + 1 + 1) [.int .i64 0, .bool true, .int .i64 0, .string ⟨#[]⟩, .bool false] 33 := by rw [hW2]; exact (((((HR.set 0 (.int .i64 0)).set 1 (.bool true)).set 2 (.int .i64 0)).set 3 (.string ⟨#[]⟩)).set 4 (.bool false))
        have hbW2 : Below w.heap.size w W2 := by rw [hW2]; exact (((((hbw2.setCell (p := ⟨w.heap.size + 1 + 1, 0, none⟩) (by first | exact Nat.le_refl _ | (simp; omega) | omega) _).setCell (p := ⟨w.heap.size + 1 + 1, 1, none⟩) (by first | exact Nat.le_refl _ | (simp; omega) | omega) _).setCell (p := ⟨w.heap.size + 1 + 1, 2, none⟩) (by first | exact Nat.le_refl _ | (simp; omega) | omega) _).setCell (p := ⟨w.heap.size + 1 + 1, 3, none⟩) (by first | exact Nat.le_refl _ | (simp; omega) | omega) _).setCell (p := ⟨w.heap.size + 1 + 1, 4, none⟩) (by first | exact Nat.le_refl _ | (simp; omega) | omega) _)
        have hzW2 : W2.heap.size = w2.heap.size := by rw [hW2]; simp
        replace hW2 := Lib.hid hW2
        have hf : post (.returned (.agg #[.int .i64 0, .bool true, .int .i64 0, .string ⟨#[]⟩, .bool false])) W2 := by rw [← hpost.out, hres.out]; simp only [Bool.or_false, Bool.or_true, Bool.or_self, Bool.true_or, Bool.false_or, if_true, Bool.false_eq_true, if_false]; exact ⟨rfl, hbW2⟩
        replace hf := Lib.hid hf
        have r0 := Lib.hid (HR.cell (o := 0) rfl)
        have r1 := Lib.hid (HR.cell (o := 1) rfl)
        have r2 := Lib.hid (HR.cell (o := 2) rfl)
        have r3 := Lib.hid (HR.cell (o := 3) rfl)
        have r4 := Lib.hid (HR.cell (o := 4) rfl)
        replace hzW1 := Lib.hid hzW1
        replace hzW2 := Lib.hid hzW2
        go_wp2_with fail
        rw [show ((((w2.setCell ⟨w.heap.size + 1 + 1, 0, none⟩ (.int .i64 0)).setCell ⟨w.heap.size + 1 + 1, 1, none⟩ (.bool true)).setCell ⟨w.heap.size + 1 + 1, 2, none⟩ (.int .i64 0)).setCell ⟨w.heap.size + 1 + 1, 3, none⟩ (.string ⟨#[]⟩)).setCell ⟨w.heap.size + 1 + 1, 4, none⟩ (.bool false) = W2 from hW2.out.symm]
        exact bodyPost_ret (v := .agg #[.int .i64 0, .bool true, .int .i64 0, .string ⟨#[]⟩, .bool false]) (by simp [results, Tryz.results33, go_sem, r0.out, r1.out, r2.out, r3.out, r4.out]) rfl hf.out
end Go.Proofs.YtgnoikfmhncbmaaGreatDoor
