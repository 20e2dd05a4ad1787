/- Walks: unbounded, None; pick, both, ordered, either of the reference. -/
import Derived.Test.YtgnoikfmhncbmaaGreatDoorB0
set_option linter.unusedVariables false
set_option linter.unusedSimpArgs false
namespace Go.Proofs.YtgnoikfmhncbmaaGreatDoor
open Go.RowKit Go.Lib
theorem cmp_c (a b : RV) (hsa : a.tx.size ≤ 140737488351232) (hsb : b.tx.size ≤ 140737488351232) (w : World) (hE : Env w) :
    Calls Tryz.prog 43 #[a.val, b.val] w (RPost w (.tuple #[.int .i64 (cmpX a b), .int .i64 (cmpE a b : Nat)])) := by
  have h := compare_any a.ty a.nl a.n a.tx a.b b.ty b.nl b.n b.tx b.b (by omega) (by omega) w hE
  rw [cmpRes_xe] at h
  exact h
theorem rcmp_c (a b : RV) (hsa : a.tx.size ≤ 140737488351232) (hsb : b.tx.size ≤ 140737488351232) (w : World) :
    Calls Tryz.prog 58 #[a.rval, b.rval] w (RPost w (.tuple #[.int .i64 (if cmpBad a b then 0 else cmpR a b), .int .i64 (if cmpBad a b then 16 else 0)])) :=
  rcompare_any a.ty a.nl a.n a.tx a.b b.ty b.nl b.n b.tx b.b (by omega) (by omega) w
theorem cmpR_range (a b : RV) : cmpR a b = -1 ∨ cmpR a b = 0 ∨ cmpR a b = 1 := by unfold cmpR; split <;> (try split) <;> simp
theorem none_any (w : World) : Calls Tryz.prog 30 #[] w (RPost w RVN.rval) := by
  generalize hpost : RPost w RVN.rval = post
  have hfin : ∀ w', Below w.heap.size w w' → post (.returned RVN.rval) w' := fun w' hb => by rw [← hpost]; exact ⟨rfl, hb⟩
  have hb := hfin _ ((Below.refl w.heap.size w).alloc (Nat.le_refl _) (.cells RVN.rcells.toArray 33))
  unfold RVN RV.rcells RV.rval at hb
  simp only at hb
  replace hb := Lib.hid hb
  replace hfin := Lib.hid hfin
  go_enter Tryz.func30, Tryz.ntmps30
  go_wp2_with fail
  exact bodyPost_ret (v := .agg #[.int .i64 0, .bool true, .int .i64 0, .string ⟨#[]⟩, .bool false]) (by simp [results, Tryz.results30, go_sem]) rfl hb.out
theorem unb_any (ex : Bool) (w : World) : Calls Tryz.prog 28 #[.bool ex] w (RPost w (spN ex).val) := by
  generalize hpost : RPost w (spN ex).val = post
  have hfin : ∀ w', Below w.heap.size w w' → post (.returned (spN ex).val) w' := fun w' hb => by rw [← hpost]; exact ⟨rfl, hb⟩
  have hb := hfin _ ((((Below.refl w.heap.size w).alloc (Nat.le_refl _) (.cells (spN ex).cells.toArray 92))).alloc (by simp) (.cells RVN.cells.toArray 28))
  unfold Sp.val Sp.cells spN RVN RV.cells at hb
  simp only [List.cons_append, List.nil_append] at hb
  replace hb := Lib.hid hb
  replace hfin := Lib.hid hfin
  go_enter Tryz.func28, Tryz.ntmps28
  go_wp2_with fail
  exact bodyPost_ret (v := .agg #[.int .u8 0, .bool true, .int .i64 0, .string ⟨#[]⟩, .bool false, .int .u8 0, .bool true, .int .i64 0, .string ⟨#[]⟩, .bool false, .bool ex]) (by simp [results, Tryz.results28, go_sem]) rfl hb.out
set_option maxHeartbeats 2000000 in
theorem pick_any (a b : RV) (s : Int) (hs : s = 1 ∨ s = -1) (hsa : a.tx.size ≤ 140737488351232) (hsb : b.tx.size ≤ 140737488351232) (w : World) : Calls Tryz.prog 57 #[a.rval, b.rval, .int .i64 s] w (RPost w (pickR a b s).rval) := by
  have hc := fun w => rcmp_c a b hsa hsb w
  have hcr := cmpR_range a b
  have hres : pickR a b s = if cmpBad a b = false ∧ cmpR a b * s < 0 then b else a := rfl
  obtain ⟨ta, na, ia, xa, ba⟩ := a
  obtain ⟨tb, nb, ib, xb, bb⟩ := b
  generalize cmpBad ⟨ta, na, ia, xa, ba⟩ ⟨tb, nb, ib, xb, bb⟩ = cb at *
  generalize cmpR ⟨ta, na, ia, xa, ba⟩ ⟨tb, nb, ib, xb, bb⟩ = cr at *
  generalize pickR ⟨ta, na, ia, xa, ba⟩ ⟨tb, nb, ib, xb, bb⟩ s = rs at *
  generalize hpost : RPost w rs.rval = post
  replace hpost := Lib.hid hpost
  replace hres := Lib.hid hres
  dsimp only [RV.rval] at hc
  replace hc := Lib.hid hc
  obtain ⟨W1, hW1⟩ : ∃ W1, W1 = ((w.alloc (.cells #[.int .i64 (ta : Int), .bool na, .int .i64 ia, .string xa, .bool ba] 33)).alloc (.cells #[.int .i64 (tb : Int), .bool nb, .int .i64 ib, .string xb, .bool bb] 33)).alloc (.cells #[.int .i64 0, .bool false, .int .i64 0, .string ⟨#[]⟩, .bool false] 33) := ⟨_, rfl⟩
  have HA : Has W1 (w.heap.size) [.int .i64 (ta : Int), .bool na, .int .i64 ia, .string xa, .bool ba] 33 := by
    rw [hW1]; have h := Has.new (w) [.int .i64 (ta : Int), .bool na, .int .i64 ia, .string xa, .bool ba] 33; (try simp only [World.size_alloc] at h); exact ((h.alloc _).alloc _)
  have HB : Has W1 (w.heap.size + 1) [.int .i64 (tb : Int), .bool nb, .int .i64 ib, .string xb, .bool bb] 33 := by
    rw [hW1]; have h := Has.new ((w.alloc (.cells #[.int .i64 (ta : Int), .bool na, .int .i64 ia, .string xa, .bool ba] 33))) [.int .i64 (tb : Int), .bool nb, .int .i64 ib, .string xb, .bool bb] 33; (try simp only [World.size_alloc] at h); exact (h.alloc _)
  have HR : Has W1 (w.heap.size + 1 + 1) [.int .i64 0, .bool false, .int .i64 0, .string ⟨#[]⟩, .bool false] 33 := by
    rw [hW1]; have h := Has.new (((w.alloc (.cells #[.int .i64 (ta : Int), .bool na, .int .i64 ia, .string xa, .bool ba] 33)).alloc (.cells #[.int .i64 (tb : Int), .bool nb, .int .i64 ib, .string xb, .bool bb] 33))) [.int .i64 0, .bool false, .int .i64 0, .string ⟨#[]⟩, .bool false] 33; (try simp only [World.size_alloc] at h); exact h
  have hbW1 : Below w.heap.size w W1 := by rw [hW1]; exact ((((Below.refl _ _).alloc (by first | exact Nat.le_refl _ | (simp only [World.size_alloc]; omega)) _).alloc (by first | exact Nat.le_refl _ | (simp only [World.size_alloc]; omega)) _).alloc (by first | exact Nat.le_refl _ | (simp only [World.size_alloc]; omega)) _)
  have hzW1 : W1.heap.size = w.heap.size + 3 := by rw [hW1]; simp
  replace hW1 := Lib.hid hW1
  have cA0 := HA.cell (o := 0) rfl
  have cA1 := HA.cell (o := 1) rfl
  have cA2 := HA.cell (o := 2) rfl
  have cA3 := HA.cell (o := 3) rfl
  have cA4 := HA.cell (o := 4) rfl
  have cB0 := HB.cell (o := 0) rfl
  have cB1 := HB.cell (o := 1) rfl
  have cB2 := HB.cell (o := 2) rfl
  have cB3 := HB.cell (o := 3) rfl
  have cB4 := HB.cell (o := 4) rfl
  have cR0 := HR.cell (o := 0) rfl
  have cR1 := HR.cell (o := 1) rfl
  have cR2 := HR.cell (o := 2) rfl
  have cR3 := HR.cell (o := 3) rfl
  have cR4 := HR.cell (o := 4) rfl
  unfold RV.rval
  go_enter Tryz.func57, Tryz.ntmps57
  replace hzW1 := Lib.hid hzW1
  go_wp2_with fail
  replace hzW1 := hzW1.out
  rw [show ((w.alloc (.cells #[.int .i64 (ta : Int), .bool na, .int .i64 ia, .string xa, .bool ba] 33)).alloc (.cells #[.int .i64 (tb : Int), .bool nb, .int .i64 ib, .string xb, .bool bb] 33)).alloc (.cells #[.int .i64 0, .bool false, .int .i64 0, .string ⟨#[]⟩, .bool false] 33) = W1 from hW1.out.symm]
  refine (hc.out _).mono ?_
  rintro e w1 ⟨rfl, hb1⟩
  replace HA : Has w1 (w.heap.size) [.int .i64 (ta : Int), .bool na, .int .i64 ia, .string xa, .bool ba] 33 := HA.only (Only.of_below hb1) (Nat.not_le.2 HA.lt)
  replace HB : Has w1 (w.heap.size + 1) [.int .i64 (tb : Int), .bool nb, .int .i64 ib, .string xb, .bool bb] 33 := HB.only (Only.of_below hb1) (Nat.not_le.2 HB.lt)
  replace HR : Has w1 (w.heap.size + 1 + 1) [.int .i64 0, .bool false, .int .i64 0, .string ⟨#[]⟩, .bool false] 33 := HR.only (Only.of_below hb1) (Nat.not_le.2 HR.lt)
  have hbw1 : Below w.heap.size w w1 := hbW1.trans (hb1.mono hbW1.size)
  have hzw1 := hb1.size
  clear cA0 cA1 cA2 cA3 cA4 cB0 cB1 cB2 cB3 cB4 cR0 cR1 cR2 cR3 cR4
  have cA0 := HA.cell (o := 0) rfl
  have cA1 := HA.cell (o := 1) rfl
  have cA2 := HA.cell (o := 2) rfl
  have cA3 := HA.cell (o := 3) rfl
  have cA4 := HA.cell (o := 4) rfl
  have cB0 := HB.cell (o := 0) rfl
  have cB1 := HB.cell (o := 1) rfl
  have cB2 := HB.cell (o := 2) rfl
  have cB3 := HB.cell (o := 3) rfl
  have cB4 := HB.cell (o := 4) rfl
  have cR0 := HR.cell (o := 0) rfl
  have cR1 := HR.cell (o := 1) rfl
  have cR2 := HR.cell (o := 2) rfl
  have cR3 := HR.cell (o := 3) rfl
  have cR4 := HR.cell (o := 4) rfl
  have fR0 := HR.free 0
  have fR1 := HR.free 1
  have fR2 := HR.free 2
  have fR3 := HR.free 3
  have fR4 := HR.free 4
  replace hb1 := Lib.hid hb1
  cases cb with
  | true =>
    obtain ⟨W2, hW2⟩ : ∃ W2, W2 = ((((w1.setCell ⟨w.heap.size + 1 + 1, 0, none⟩ (.int .i64 (ta : Int))).setCell ⟨w.heap.size + 1 + 1, 1, none⟩ (.bool na)).setCell ⟨w.heap.size + 1 + 1, 2, none⟩ (.int .i64 ia)).setCell ⟨w.heap.size + 1 + 1, 3, none⟩ (.string xa)).setCell ⟨w.heap.size + 1 + 1, 4, none⟩ (.bool ba) := ⟨_, rfl⟩
    replace HA : Has W2 (w.heap.size) [.int .i64 (ta : Int), .bool na, .int .i64 ia, .string xa, .bool ba] 33 := by rw [hW2]; exact (((((HA.set_ne (a := ⟨w.heap.size + 1 + 1, 0, none⟩) (by first | (simp; done) | (simp; omega) | omega) _).set_ne (a := ⟨w.heap.size + 1 + 1, 1, none⟩) (by first | (simp; done) | (simp; omega) | omega) _).set_ne (a := ⟨w.heap.size + 1 + 1, 2, none⟩) (by first | (simp; done) | (simp; omega) | omega) _).set_ne (a := ⟨w.heap.size + 1 + 1, 3, none⟩) (by first | (simp; done) | (simp; omega) | omega) _).set_ne (a := ⟨w.heap.size + 1 + 1, 4, none⟩) (by first | (simp; done) | (simp; omega) | omega) _)
    replace HB : Has W2 (w.heap.size + 1) [.int .i64 (tb : Int), .bool nb, .int .i64 ib, .string xb, .bool bb] 33 := by rw [hW2]; exact (((((HB.set_ne (a := ⟨w.heap.size + 1 + 1, 0, none⟩) (by first | (simp; done) | (simp; omega) | omega) _).set_ne (a := ⟨w.heap.size + 1 + 1, 1, none⟩) (by first | (simp; done) | (simp; omega) | omega) _).set_ne (a := ⟨w.heap.size + 1 + 1, 2, none⟩) (by first | (simp; done) | (simp; omega) | omega) _).set_ne (a := ⟨w.heap.size + 1 + 1, 3, none⟩) (by first | (simp; done) | (simp; omega) | omega) _).set_ne (a := ⟨w.heap.size + 1 + 1, 4, none⟩) (by first | (simp; done) | (simp; omega) | omega) _)
    replace HR : Has W2 (w.heap.size + 1 + 1) [.int .i64 (ta : Int), .bool na, .int .i64 ia, .string xa, .bool ba] 33 := by rw [hW2]; exact (((((HR.set 0 (.int .i64 (ta : Int))).set 1 (.bool na)).set 2 (.int .i64 ia)).set 3 (.string xa)).set 4 (.bool ba))
    have hbW2 : Below w.heap.size w W2 := by rw [hW2]; exact (((((hbw1.setCell (p := ⟨w.heap.size + 1 + 1, 0, none⟩) (by first | exact Nat.le_refl _ | (simp; omega) | omega) _).setCell (p := ⟨w.heap.size + 1 + 1, 1, none⟩) (by first | exact Nat.le_refl _ | (simp; omega) | omega) _).setCell (p := ⟨w.heap.size + 1 + 1, 2, none⟩) (by first | exact Nat.le_refl _ | (simp; omega) | omega) _).setCell (p := ⟨w.heap.size + 1 + 1, 3, none⟩) (by first | exact Nat.le_refl _ | (simp; omega) | omega) _).setCell (p := ⟨w.heap.size + 1 + 1, 4, none⟩) (by first | exact Nat.le_refl _ | (simp; omega) | omega) _)
    have hzW2 : W2.heap.size = w1.heap.size := by rw [hW2]; simp
    replace hW2 := Lib.hid hW2
    have hf : post (.returned (.agg #[.int .i64 (ta : Int), .bool na, .int .i64 ia, .string xa, .bool ba])) W2 := by rw [← hpost.out, hres.out, if_neg (fun h => Bool.noConfusion h.1)]; exact ⟨rfl, hbW2⟩
    replace hf := Lib.hid hf
    have r0 := Lib.hid (HR.cell (o := 0) rfl)
    have r1 := Lib.hid (HR.cell (o := 1) rfl)
    have r2 := Lib.hid (HR.cell (o := 2) rfl)
    have r3 := Lib.hid (HR.cell (o := 3) rfl)
    have r4 := Lib.hid (HR.cell (o := 4) rfl)
    replace hzW1 := Lib.hid hzW1
    replace hzW2 := Lib.hid hzW2
    go_wp2_with fail
    rw [show ((((w1.setCell ⟨w.heap.size + 1 + 1, 0, none⟩ (.int .i64 (ta : Int))).setCell ⟨w.heap.size + 1 + 1, 1, none⟩ (.bool na)).setCell ⟨w.heap.size + 1 + 1, 2, none⟩ (.int .i64 ia)).setCell ⟨w.heap.size + 1 + 1, 3, none⟩ (.string xa)).setCell ⟨w.heap.size + 1 + 1, 4, none⟩ (.bool ba) = W2 from hW2.out.symm]
    exact bodyPost_ret (v := .agg #[.int .i64 (ta : Int), .bool na, .int .i64 ia, .string xa, .bool ba]) (by simp [results, Tryz.results57, go_sem, r0.out, r1.out, r2.out, r3.out, r4.out]) rfl hf.out
  | false =>
    simp only [Bool.false_eq_true, if_false]
    by_cases hlt : cr * s < 0
    · have hd : decide (cr * s < 0) = true := decide_eq_true hlt
      have hm : -1 ≤ cr * s ∧ cr * s ≤ 1 := by rcases hcr with h | h | h <;> rcases hs with h2 | h2 <;> rw [h, h2] <;> decide
      obtain ⟨W2, hW2⟩ : ∃ W2, W2 = ((((w1.setCell ⟨w.heap.size + 1 + 1, 0, none⟩ (.int .i64 (tb : Int))).setCell ⟨w.heap.size + 1 + 1, 1, none⟩ (.bool nb)).setCell ⟨w.heap.size + 1 + 1, 2, none⟩ (.int .i64 ib)).setCell ⟨w.heap.size + 1 + 1, 3, none⟩ (.string xb)).setCell ⟨w.heap.size + 1 + 1, 4, none⟩ (.bool bb) := ⟨_, rfl⟩
      replace HA : Has W2 (w.heap.size) [.int .i64 (ta : Int), .bool na, .int .i64 ia, .string xa, .bool ba] 33 := by rw [hW2]; exact (((((HA.set_ne (a := ⟨w.heap.size + 1 + 1, 0, none⟩) (by first | (simp; done) | (simp; omega) | omega) _).set_ne (a := ⟨w.heap.size + 1 + 1, 1, none⟩) (by first | (simp; done) | (simp; omega) | omega) _).set_ne (a := ⟨w.heap.size + 1 + 1, 2, none⟩) (by first | (simp; done) | (simp; omega) | omega) _).set_ne (a := ⟨w.heap.size + 1 + 1, 3, none⟩) (by first | (simp; done) | (simp; omega) | omega) _).set_ne (a := ⟨w.heap.size + 1 + 1, 4, none⟩) (by first | (simp; done) | (simp; omega) | omega) _)
      replace HB : Has W2 (w.heap.size + 1) [.int .i64 (tb : Int), .bool nb, .int .i64 ib, .string xb, .bool bb] 33 := by rw [hW2]; exact (((((HB.set_ne (a := ⟨w.heap.size + 1 + 1, 0, none⟩) (by first | (simp; done) | (simp; omega) | omega) _).set_ne (a := ⟨w.heap.size + 1 + 1, 1, none⟩) (by first | (simp; done) | (simp; omega) | omega) _).set_ne (a := ⟨w.heap.size + 1 + 1, 2, none⟩) (by first | (simp; done) | (simp; omega) | omega) _).set_ne (a := ⟨w.heap.size + 1 + 1, 3, none⟩) (by first | (simp; done) | (simp; omega) | omega) _).set_ne (a := ⟨w.heap.size + 1 + 1, 4, none⟩) (by first | (simp; done) | (simp; omega) | omega) _)
      replace HR : Has W2 (w.heap.size + 1 + 1) [.int .i64 (tb : Int), .bool nb, .int .i64 ib, .string xb, .bool bb] 33 := by rw [hW2]; exact (((((HR.set 0 (.int .i64 (tb : Int))).set 1 (.bool nb)).set 2 (.int .i64 ib)).set 3 (.string xb)).set 4 (.bool bb))
      have hbW2 : Below w.heap.size w W2 := by rw [hW2]; exact (((((hbw1.setCell (p := ⟨w.heap.size + 1 + 1, 0, none⟩) (by first | exact Nat.le_refl _ | (simp; omega) | omega) _).setCell (p := ⟨w.heap.size + 1 + 1, 1, none⟩) (by first | exact Nat.le_refl _ | (simp; omega) | omega) _).setCell (p := ⟨w.heap.size + 1 + 1, 2, none⟩) (by first | exact Nat.le_refl _ | (simp; omega) | omega) _).setCell (p := ⟨w.heap.size + 1 + 1, 3, none⟩) (by first | exact Nat.le_refl _ | (simp; omega) | omega) _).setCell (p := ⟨w.heap.size + 1 + 1, 4, none⟩) (by first | exact Nat.le_refl _ | (simp; omega) | omega) _)
      have hzW2 : W2.heap.size = w1.heap.size := by rw [hW2]; simp
      replace hW2 := Lib.hid hW2
      have hf : post (.returned (.agg #[.int .i64 (tb : Int), .bool nb, .int .i64 ib, .string xb, .bool bb])) W2 := by rw [← hpost.out, hres.out, if_pos ⟨rfl, hlt⟩]; exact ⟨rfl, hbW2⟩
      replace hf := Lib.hid hf
      clear hcr hs
      have r0 := Lib.hid (HR.cell (o := 0) rfl)
      have r1 := Lib.hid (HR.cell (o := 1) rfl)
      have r2 := Lib.hid (HR.cell (o := 2) rfl)
      have r3 := Lib.hid (HR.cell (o := 3) rfl)
      have r4 := Lib.hid (HR.cell (o := 4) rfl)
      replace hzW1 := Lib.hid hzW1
      replace hzW2 := Lib.hid hzW2
      go_wp2_with fail
      rw [show ((((w1.setCell ⟨w.heap.size + 1 + 1, 0, none⟩ (.int .i64 (tb : Int))).setCell ⟨w.heap.size + 1 + 1, 1, none⟩ (.bool nb)).setCell ⟨w.heap.size + 1 + 1, 2, none⟩ (.int .i64 ib)).setCell ⟨w.heap.size + 1 + 1, 3, none⟩ (.string xb)).setCell ⟨w.heap.size + 1 + 1, 4, none⟩ (.bool bb) = W2 from hW2.out.symm]
      exact bodyPost_ret (v := .agg #[.int .i64 (tb : Int), .bool nb, .int .i64 ib, .string xb, .bool bb]) (by simp [results, Tryz.results57, go_sem, r0.out, r1.out, r2.out, r3.out, r4.out]) rfl hf.out
    · have hd : decide (cr * s < 0) = false := decide_eq_false hlt
      have hm : -1 ≤ cr * s ∧ cr * s ≤ 1 := by rcases hcr with h | h | h <;> rcases hs with h2 | h2 <;> rw [h, h2] <;> decide
      obtain ⟨W2, hW2⟩ : ∃ W2, W2 = ((((w1.setCell ⟨w.heap.size + 1 + 1, 0, none⟩ (.int .i64 (ta : Int))).setCell ⟨w.heap.size + 1 + 1, 1, none⟩ (.bool na)).setCell ⟨w.heap.size + 1 + 1, 2, none⟩ (.int .i64 ia)).setCell ⟨w.heap.size + 1 + 1, 3, none⟩ (.string xa)).setCell ⟨w.heap.size + 1 + 1, 4, none⟩ (.bool ba) := ⟨_, rfl⟩
      replace HA : Has W2 (w.heap.size) [.int .i64 (ta : Int), .bool na, .int .i64 ia, .string xa, .bool ba] 33 := by rw [hW2]; exact (((((HA.set_ne (a := ⟨w.heap.size + 1 + 1, 0, none⟩) (by first | (simp; done) | (simp; omega) | omega) _).set_ne (a := ⟨w.heap.size + 1 + 1, 1, none⟩) (by first | (simp; done) | (simp; omega) | omega) _).set_ne (a := ⟨w.heap.size + 1 + 1, 2, none⟩) (by first | (simp; done) | (simp; omega) | omega) _).set_ne (a := ⟨w.heap.size + 1 + 1, 3, none⟩) (by first | (simp; done) | (simp; omega) | omega) _).set_ne (a := ⟨w.heap.size + 1 + 1, 4, none⟩) (by first | (simp; done) | (simp; omega) | omega) _)
      replace HB : Has W2 (w.heap.size + 1) [.int .i64 (tb : Int), .bool nb, .int .i64 ib, .string xb, .bool bb] 33 := by rw [hW2]; exact (((((HB.set_ne (a := ⟨w.heap.size + 1 + 1, 0, none⟩) (by first | (simp; done) | (simp; omega) | omega) _).set_ne (a := ⟨w.heap.size + 1 + 1, 1, none⟩) (by first | (simp; done) | (simp; omega) | omega) _).set_ne (a := ⟨w.heap.size + 1 + 1, 2, none⟩) (by first | (simp; done) | (simp; omega) | omega) _).set_ne (a := ⟨w.heap.size + 1 + 1, 3, none⟩) (by first | (simp; done) | (simp; omega) | omega) _).set_ne (a := ⟨w.heap.size + 1 + 1, 4, none⟩) (by first | (simp; done) | (simp; omega) | omega) _)
      replace HR : Has W2 (w.heap.size + 1 + 1) [.int .i64 (ta : Int), .bool na, .int .i64 ia, .string xa, .bool ba] 33 := by rw [hW2]; exact (((((HR.set 0 (.int .i64 (ta : Int))).set 1 (.bool na)).set 2 (.int .i64 ia)).set 3 (.string xa)).set 4 (.bool ba))
      have hbW2 : Below w.heap.size w W2 := by rw [hW2]; exact (((((hbw1.setCell (p := ⟨w.heap.size + 1 + 1, 0, none⟩) (by first | exact Nat.le_refl _ | (simp; omega) | omega) _).setCell (p := ⟨w.heap.size + 1 + 1, 1, none⟩) (by first | exact Nat.le_refl _ | (simp; omega) | omega) _).setCell (p := ⟨w.heap.size + 1 + 1, 2, none⟩) (by first | exact Nat.le_refl _ | (simp; omega) | omega) _).setCell (p := ⟨w.heap.size + 1 + 1, 3, none⟩) (by first | exact Nat.le_refl _ | (simp; omega) | omega) _).setCell (p := ⟨w.heap.size + 1 + 1, 4, none⟩) (by first | exact Nat.le_refl _ | (simp; omega) | omega) _)
      have hzW2 : W2.heap.size = w1.heap.size := by rw [hW2]; simp
      replace hW2 := Lib.hid hW2
      have hf : post (.returned (.agg #[.int .i64 (ta : Int), .bool na, .int .i64 ia, .string xa, .bool ba])) W2 := by rw [← hpost.out, hres.out, if_neg (fun h => hlt h.2)]; exact ⟨rfl, hbW2⟩
      replace hf := Lib.hid hf
      clear hcr hs
      have r0 := Lib.hid (HR.cell (o := 0) rfl)
      have r1 := Lib.hid (HR.cell (o := 1) rfl)
      have r2 := Lib.hid (HR.cell (o := 2) rfl)
      have r3 := Lib.hid (HR.cell (o := 3) rfl)
      have r4 := Lib.hid (HR.cell (o := 4) rfl)
      replace hzW1 := Lib.hid hzW1
      replace hzW2 := Lib.hid hzW2
      go_wp2_with fail
      rw [show ((((w1.setCell ⟨w.heap.size + 1 + 1, 0, none⟩ (.int .i64 (ta : Int))).setCell ⟨w.heap.size + 1 + 1, 1, none⟩ (.bool na)).setCell ⟨w.heap.size + 1 + 1, 2, none⟩ (.int .i64 ia)).setCell ⟨w.heap.size + 1 + 1, 3, none⟩ (.string xa)).setCell ⟨w.heap.size + 1 + 1, 4, none⟩ (.bool ba) = W2 from hW2.out.symm]
      exact bodyPost_ret (v := .agg #[.int .i64 (ta : Int), .bool na, .int .i64 ia, .string xa, .bool ba]) (by simp [results, Tryz.results57, go_sem, r0.out, r1.out, r2.out, r3.out, r4.out]) rfl hf.out
end Go.Proofs.YtgnoikfmhncbmaaGreatDoor
