/- The walk of the reference's Compare. -/
import Derived.Test.YtgnoikfmhncbmaaGreatDoorR24
import Derived.Test.YtgnoikfmhncbmaaGreatDoorR19
import Derived.Test.YtgnoikfmhncbmaaGreatDoorR17
set_option linter.unusedVariables false
set_option linter.unusedSimpArgs false
namespace Go.Proofs.YtgnoikfmhncbmaaGreatDoor
open Go.RowKit Go.Lib Go.BigFrame
set_option linter.unusedVariables false

theorem toL (a : ByteArray) : a.toList = a.data.toList := ByteArray.toList_eq a
theorem less_list : ∀ a b : List UInt8, Op.bytesLess a b = decide (compareBytes a b < 0)
  | [], [] => rfl
  | [], _ :: _ => rfl
  | _ :: _, [] => rfl
  | a :: p, b :: q => by
    have ih := less_list p q
    unfold Op.bytesLess compareBytes
    rw [ih]
    by_cases h1 : a < b
    · rw [if_pos h1, decide_eq_true h1]; rfl
    · rw [if_neg h1, decide_eq_false h1]
      by_cases h2 : b < a
      · rw [if_pos h2]
        have : (a == b) = false := by
          rw [UInt8.lt_iff_toNat_lt] at h2
          simp only [beq_eq_false_iff_ne]
          rintro rfl
          omega
        rw [this]; rfl
      · rw [if_neg h2]
        have : (a == b) = true := by
          rw [UInt8.lt_iff_toNat_lt] at h1 h2
          simp only [beq_iff_eq]
          exact UInt8.toNat_inj.1 (by omega)
        rw [this]; simp
theorem less_cb (a b : ByteArray) : Op.bytesLess a.toList b.toList = decide (compareBytes a.data.toList b.data.toList < 0) := by rw [toL, toL]; exact less_list _ _
theorem eq_cb (a b : ByteArray) : (a.toList == b.toList) = decide (compareBytes a.data.toList b.data.toList = 0) := by
  rw [toL b, beqL, Bool.eq_iff_iff]
  simp only [decide_eq_true_eq]
  exact ⟨fun h => by rw [h]; exact cb_self _, cb_eq _ _⟩
def rcmpRes (a b : RV) : Value := .tuple #[.int .i64 (if cmpBad a b then 0 else cmpR a b), .int .i64 (if cmpBad a b then 16 else 0)]
set_option maxHeartbeats 4000000 in
set_option maxRecDepth 100000 in
theorem rcompare_any (ta : Nat) (na : Bool) (ia : Int) (xa : ByteArray) (ba : Bool) (tb : Nat) (nb : Bool) (ib : Int) (xb : ByteArray) (bb : Bool) (hsa : xa.size ≤ 9223372036854775807) (hsb : xb.size ≤ 9223372036854775807) (w : World) :
    Calls Tryz.prog 58 #[.agg #[.int .i64 (ta : Int), .bool na, .int .i64 ia, .string xa, .bool ba], .agg #[.int .i64 (tb : Int), .bool nb, .int .i64 ib, .string xb, .bool bb]] w (RPost w (rcmpRes ⟨ta, na, ia, xa, ba⟩ ⟨tb, nb, ib, xb, bb⟩)) := by
  obtain ⟨W0, hW0⟩ : ∃ W, W = w.alloc (.cells #[.int .i64 (ta : Int), .bool na, .int .i64 ia, .string xa, .bool ba] 33) := ⟨_, rfl⟩
  obtain ⟨W, hW⟩ : ∃ W, W = W0.alloc (.cells #[.int .i64 (tb : Int), .bool nb, .int .i64 ib, .string xb, .bool bb] 33) := ⟨_, rfl⟩
  have hz0 : W0.heap.size = w.heap.size + 1 := by rw [hW0]; simp
  have hA : Has W w.heap.size [.int .i64 (ta : Int), .bool na, .int .i64 ia, .string xa, .bool ba] 33 := by rw [hW, hW0]; exact (Has.new w _ 33).alloc _
  have hB : Has W (w.heap.size + 1) [.int .i64 (tb : Int), .bool nb, .int .i64 ib, .string xb, .bool bb] 33 := by
    have := Has.new W0 [.int .i64 (tb : Int), .bool nb, .int .i64 ib, .string xb, .bool bb] 33
    rw [hz0] at this
    rw [hW]; exact this
  have hBW : Below w.heap.size w W := by rw [hW, hW0]; exact ((Below.refl _ _).alloc (Nat.le_refl _) _).alloc (by simp) _
  have hva := fun w' => rform_any ta na ia xa ba hsa w'
  have hvb := fun w' => rform_any tb nb ib xb bb hsb w'
  have hra := fun w' => rank_any ta na ia xa ba w'
  have hrb := fun w' => rank_any tb nb ib xb bb w'
  obtain ⟨cb, hcb⟩ : ∃ x, x = compareBytes xa.data.toList xb.data.toList := ⟨_, rfl⟩
  have L1 : Op.bytesLess xa.toList xb.toList = decide (cb < 0) := by rw [hcb]; exact less_cb xa xb
  have L2 : (xa.toList == xb.toList) = decide (cb = 0) := by rw [hcb]; exact eq_cb xa xb
  replace L1 := Lib.hid L1
  replace L2 := Lib.hid L2
  have hR : cmpR ⟨ta, na, ia, xa, ba⟩ ⟨tb, nb, ib, xb, bb⟩ = if rankV ⟨ta, na, ia, xa, ba⟩ < rankV ⟨tb, nb, ib, xb, bb⟩ ∨ cb < 0 then -1 else if rankV ⟨tb, nb, ib, xb, bb⟩ < rankV ⟨ta, na, ia, xa, ba⟩ ∨ 0 < cb then 1 else 0 := by rw [hcb]; rfl
  have hbad : cmpBad ⟨ta, na, ia, xa, ba⟩ ⟨tb, nb, ib, xb, bb⟩ = (decide (formP ⟨ta, na, ia, xa, ba⟩ ≠ 0) || (decide (formP ⟨tb, nb, ib, xb, bb⟩ ≠ 0) || decide (ta ≠ tb))) := by
    unfold cmpBad; simp
  have hfin : ∀ v : Value, rcmpRes ⟨ta, na, ia, xa, ba⟩ ⟨tb, nb, ib, xb, bb⟩ = v → ∀ w', Below W.heap.size W w' → RPost w (rcmpRes ⟨ta, na, ia, xa, ba⟩ ⟨tb, nb, ib, xb, bb⟩) (.returned v) w' := by
    intro v h w' hb
    rw [h]
    exact ⟨rfl, hBW.trans (hb.mono hBW.size)⟩
  have hres : rcmpRes ⟨ta, na, ia, xa, ba⟩ ⟨tb, nb, ib, xb, bb⟩ = .tuple #[.int .i64 (if cmpBad ⟨ta, na, ia, xa, ba⟩ ⟨tb, nb, ib, xb, bb⟩ then 0 else cmpR ⟨ta, na, ia, xa, ba⟩ ⟨tb, nb, ib, xb, bb⟩), .int .i64 (if cmpBad ⟨ta, na, ia, xa, ba⟩ ⟨tb, nb, ib, xb, bb⟩ then 16 else 0)] := rfl
  rw [hbad, hR] at hres
  clear hbad hR
  generalize rcmpRes ⟨ta, na, ia, xa, ba⟩ ⟨tb, nb, ib, xb, bb⟩ = res at *
  generalize RPost w res = post at *
  generalize formP ⟨ta, na, ia, xa, ba⟩ = fa at *
  generalize formP ⟨tb, nb, ib, xb, bb⟩ = fb at *
  generalize rankV ⟨ta, na, ia, xa, ba⟩ = ra at *
  generalize rankV ⟨tb, nb, ib, xb, bb⟩ = rb at *
  have kA := fun w' (hb : Below W.heap.size W w') => hA.only (Only.of_below hb) (Nat.not_le.2 hA.lt)
  have kB := fun w' (hb : Below W.heap.size W w') => hB.only (Only.of_below hb) (Nat.not_le.2 hB.lt)
  have a0 := hA.cell (o := 0) rfl
  have a1 := hA.cell (o := 1) rfl
  have a2 := hA.cell (o := 2) rfl
  have a3 := hA.cell (o := 3) rfl
  have a4 := hA.cell (o := 4) rfl
  replace hW := Lib.hid hW
  replace hW0 := Lib.hid hW0
  replace hz0 := Lib.hid hz0
  replace hva := Lib.hid hva
  replace hvb := Lib.hid hvb
  replace hra := Lib.hid hra
  replace hrb := Lib.hid hrb
  replace hfin := Lib.hid hfin
  replace hres := Lib.hid hres
  replace hcb := Lib.hid hcb
  replace kA := Lib.hid kA
  replace kB := Lib.hid kB
  replace hBW := Lib.hid hBW
  clear hA hB
  go_enter Tryz.func58, Tryz.ntmps58
  go_upto_region 1 with fail
  rw [← hW0.out, ← hW.out]
  go_wp2_with fail
  refine (hva.out W).mono ?_
  rintro e w1 ⟨rfl, hb1⟩
  clear a0 a1 a2 a3 a4
  by_cases h1 : fa = 0
  · have hB1 := kB.out w1 hb1
    have b0 := hB1.cell (o := 0) rfl
    have b1 := hB1.cell (o := 1) rfl
    have b2 := hB1.cell (o := 2) rfl
    have b3 := hB1.cell (o := 3) rfl
    have b4 := hB1.cell (o := 4) rfl
    have i1 : ((fa : Int) != 0) = false := by simp [h1]
    replace hb1 := Lib.hid hb1
    replace h1 := Lib.hid h1
    clear hB1
    go_wp2_with fail
    refine (hvb.out w1).mono ?_
    rintro e w2 ⟨rfl, hb12⟩
    have hb2 := hb1.out.trans (hb12.mono hb1.out.size)
    clear b0 b1 b2 b3 b4 hb12
    by_cases h2 : fb = 0
    · have i2 : ((fb : Int) != 0) = false := by simp [h2]
      have hA2 := kA.out w2 hb2
      have hB2 := kB.out w2 hb2
      have a0 := hA2.cell (o := 0) rfl
      have a1 := hA2.cell (o := 1) rfl
      have a2 := hA2.cell (o := 2) rfl
      have a3 := hA2.cell (o := 3) rfl
      have a4 := hA2.cell (o := 4) rfl
      have b0 := hB2.cell (o := 0) rfl
      have b1 := hB2.cell (o := 1) rfl
      have b2 := hB2.cell (o := 2) rfl
      have b3 := hB2.cell (o := 3) rfl
      have b4 := hB2.cell (o := 4) rfl
      have hne : ((ta : Int) != (tb : Int)) = decide (ta ≠ tb) := bne_nat ta tb
      clear hA2 hB2
      by_cases h3 : ta = tb
      · rw [decide_eq_false (by simpa using h3)] at hne
        have hres2 : res = .tuple #[.int .i64 (if ra < rb ∨ cb < 0 then -1 else if rb < ra ∨ 0 < cb then 1 else 0), .int .i64 0] := by
          rw [hres.out]; simp [h1.out, h2, h3]
        replace hres2 := Lib.hid hres2
        replace hb2 := Lib.hid hb2
        replace h2 := Lib.hid h2
        replace h3 := Lib.hid h3
        clear hres
        go_upto_region 3 with fail
        go_cut [6, 7] (fun p q wx => p = .int .i64 ra ∧ q = .int .i64 rb ∧ Below W.heap.size W wx)
        case first =>
          refine wp_region_quietC (C := fun w' => Below W.heap.size W w') (by kernel_rfl) (by kernel_rfl) (below_drew hb2.out) ?_
          have cA : ∀ wx, Below W.heap.size W wx → Calls Tryz.prog 76 #[.agg #[.int .i64 (ta : Int), .bool na, .int .i64 ia, .string xa, .bool ba]] wx (fun e w'' => e = .returned (.int .i64 ra) ∧ Below W.heap.size W w'') := fun wx hx => (hra.out wx).mono fun e w'' ⟨he, hb⟩ => ⟨he, hx.trans (hb.mono hx.size)⟩
          have cB : ∀ wx, Below W.heap.size W wx → Calls Tryz.prog 76 #[.agg #[.int .i64 (tb : Int), .bool nb, .int .i64 ib, .string xb, .bool bb]] wx (fun e w'' => e = .returned (.int .i64 rb) ∧ Below W.heap.size W w'') := fun wx hx => (hrb.out wx).mono fun e w'' ⟨he, hb⟩ => ⟨he, hx.trans (hb.mono hx.size)⟩
          have m1 : ∀ wx, Below W.heap.size W wx → wx.cell? ⟨w.heap.size, 0, none⟩ = some (.int .i64 (ta : Int)) ∧ wx.cell? ⟨w.heap.size, 1, none⟩ = some (.bool na) ∧ wx.cell? ⟨w.heap.size, 2, none⟩ = some (.int .i64 ia) ∧ wx.cell? ⟨w.heap.size, 3, none⟩ = some (.string xa) ∧ wx.cell? ⟨w.heap.size, 4, none⟩ = some (.bool ba) := fun wx hx => by
            have h := kA.out wx hx
            exact ⟨h.cell (o := 0) rfl, h.cell (o := 1) rfl, h.cell (o := 2) rfl, h.cell (o := 3) rfl, h.cell (o := 4) rfl⟩
          have m2 : ∀ wx, Below W.heap.size W wx → wx.cell? ⟨w.heap.size + 1, 0, none⟩ = some (.int .i64 (tb : Int)) ∧ wx.cell? ⟨w.heap.size + 1, 1, none⟩ = some (.bool nb) ∧ wx.cell? ⟨w.heap.size + 1, 2, none⟩ = some (.int .i64 ib) ∧ wx.cell? ⟨w.heap.size + 1, 3, none⟩ = some (.string xb) ∧ wx.cell? ⟨w.heap.size + 1, 4, none⟩ = some (.bool bb) := fun wx hx => by
            have h := kB.out wx hx
            exact ⟨h.cell (o := 0) rfl, h.cell (o := 1) rfl, h.cell (o := 2) rfl, h.cell (o := 3) rfl, h.cell (o := 4) rfl⟩
          replace cA := Lib.hid cA
          replace cB := Lib.hid cB
          replace m1 := Lib.hid m1
          replace m2 := Lib.hid m2
          clear a0 a1 a2 a3 a4 b0 b1 b2 b3 b4
          go_big_quiet_want; go_big_quiet_op
          refine ⟨.agg #[.int .i64 (ta : Int), .bool na, .int .i64 ia, .string xa, .bool ba], fun wx hx => by simp [go_sem, (m1.out wx hx).1, (m1.out wx hx).2.1, (m1.out wx hx).2.2.1, (m1.out wx hx).2.2.2.1, (m1.out wx hx).2.2.2.2], ?_⟩
          go_big_quiet_on
          go_big_quiet_want; go_big_quiet_op
          refine ⟨.int .i64 ra, fun wx hx => cA.out wx hx, ?_⟩
          go_big_quiet_on
          go_big_quiet_want; go_big_quiet_op
          refine ⟨.agg #[.int .i64 (tb : Int), .bool nb, .int .i64 ib, .string xb, .bool bb], fun wx hx => by simp [go_sem, (m2.out wx hx).1, (m2.out wx hx).2.1, (m2.out wx hx).2.2.1, (m2.out wx hx).2.2.2.1, (m2.out wx hx).2.2.2.2], ?_⟩
          go_big_quiet_on
          go_big_quiet_want; go_big_quiet_op
          refine ⟨.int .i64 rb, fun wx hx => cB.out wx hx, ?_⟩
          go_big_quiet_on
          iterate 2 (go_big_quiet_want; go_big_quiet_op; first | go_big_quiet_on | (refine ⟨_, fun _ _ => rfl, ?_⟩; go_big_quiet_on))
          refine wpQuiet_nil ?_
          intro w' hw'
          replace hw' := Lib.hid hw'
          go_wp2_with fail
          go_meet
          exact ⟨rfl, rfl, hw'.out⟩
        case rest =>
          rename World => W3
          obtain ⟨rfl, rfl, hB3⟩ := hcut
          have hA3 := kA.out W3 hB3
          have hBB3 := kB.out W3 hB3
          have d3 := hA3.cell (o := 3) rfl
          have e3 := hBB3.cell (o := 3) rfl
          clear a0 a1 a2 a3 a4 b0 b1 b2 b3 b4 hA3 hBB3
          have hg := fun v hv => hfin.out v hv W3 hB3
          replace hg := Lib.hid hg
          replace hB3 := Lib.hid hB3
          by_cases r1 : ra < rb
          · have hf := hg.out (.tuple #[.int .i64 (-1), .int .i64 0]) (by rw [hres2.out, if_pos (.inl r1)])
            replace hf := Lib.hid hf
            go_wp2_with fail
            first | exact hf.out | (go_ret2; exact hf.out)
          · by_cases q1 : cb < 0
            · have hf := hg.out (.tuple #[.int .i64 (-1), .int .i64 0]) (by rw [hres2.out, if_pos (.inr q1)])
              have l1 := L1.out
              rw [decide_eq_true q1] at l1
              replace hf := Lib.hid hf
              replace q1 := Lib.hid q1
              go_wp2_with fail
              first | exact hf.out | (go_ret2; exact hf.out)
            · have l1 := L1.out
              rw [decide_eq_false q1] at l1
              by_cases r2 : rb < ra
              · have hf := hg.out (.tuple #[.int .i64 1, .int .i64 0]) (by rw [hres2.out, if_neg (by omega), if_pos (.inl r2)])
                replace hf := Lib.hid hf
                replace q1 := Lib.hid q1
                go_wp2_with fail
                first | exact hf.out | (go_ret2; exact hf.out)
              · have l2 := L2.out
                by_cases q2 : 0 < cb
                · have hf := hg.out (.tuple #[.int .i64 1, .int .i64 0]) (by rw [hres2.out, if_neg (by omega), if_pos (.inr q2)])
                  rw [decide_eq_false (show ¬ cb = 0 by omega)] at l2
                  replace hf := Lib.hid hf
                  replace q1 := Lib.hid q1
                  replace q2 := Lib.hid q2
                  go_wp2_with fail
                  first | exact hf.out | (go_ret2; exact hf.out)
                · have hf := hg.out (.tuple #[.int .i64 0, .int .i64 0]) (by rw [hres2.out, if_neg (by omega), if_neg (by omega)])
                  rw [decide_eq_true (show cb = 0 by omega)] at l2
                  replace hf := Lib.hid hf
                  replace q1 := Lib.hid q1
                  replace q2 := Lib.hid q2
                  go_wp2_with fail
                  first | exact hf.out | (go_ret2; exact hf.out)
      · rw [decide_eq_true h3] at hne
        have hf := hfin.out (.tuple #[.int .i64 0, .int .i64 16]) (by rw [hres.out]; simp [h1.out, h2, h3]) w2 hb2
        replace hf := Lib.hid hf
        replace h2 := Lib.hid h2
        replace h3 := Lib.hid h3
        clear hb2
        go_wp2_with fail
        first | exact hf.out | (go_ret2; exact hf.out)
    · have i2 : ((fb : Int) != 0) = true := by simp [h2]
      have hf := hfin.out (.tuple #[.int .i64 0, .int .i64 16]) (by rw [hres.out]; simp [h1.out, h2]) w2 hb2
      replace hf := Lib.hid hf
      replace h2 := Lib.hid h2
      clear hb2
      go_wp2_with fail
      first | exact hf.out | (go_ret2; exact hf.out)
  · have i1 : ((fa : Int) != 0) = true := by simp [h1]
    have hf := hfin.out (.tuple #[.int .i64 0, .int .i64 16]) (by rw [hres.out]; simp [h1]) w1 hb1
    replace hf := Lib.hid hf
    replace h1 := Lib.hid h1
    clear hb1
    go_wp2_with fail
    first | exact hf.out | (go_ret2; exact hf.out)
end Go.Proofs.YtgnoikfmhncbmaaGreatDoor
