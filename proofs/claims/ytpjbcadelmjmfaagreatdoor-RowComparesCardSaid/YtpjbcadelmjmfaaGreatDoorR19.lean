/- The walk of RowOrder. -/
import Derived.Test.YtpjbcadelmjmfaaGreatDoorR17
import Derived.Test.YtpjbcadelmjmfaaGreatDoorR18
import Derived.Test.YtpjbcadelmjmfaaGreatDoorR4
namespace Go.Proofs.YtpjbcadelmjmfaaGreatDoor
open Go.RowKit Go.Lib

def cmpX (a b : RV) : Int := if cmpBad a b then 0 else cmpV a b
def cmpE (a b : RV) : Nat := if cmpBad a b then 16 else 0
theorem cmpRes_xe (a b : RV) : cmpRes a b = .tuple #[.int .i64 (cmpX a b), .int .i64 (cmpE a b : Nat)] := by
  unfold cmpRes cmpX cmpE
  cases cmpBad a b <;> rfl
theorem cmpE_zero {a b : RV} (h : cmpE a b = 0) : cmpBad a b = false ∧ formP a = 0 ∧ formP b = 0 ∧ a.ty = b.ty := by
  unfold cmpE at h
  cases hb : cmpBad a b with
  | true => rw [hb] at h; simp at h
  | false =>
    unfold cmpBad at hb
    simp only [Bool.or_eq_false_iff, Bool.not_eq_false', decide_eq_true_eq, decide_eq_false_iff_not] at hb
    exact ⟨rfl, hb.1, hb.2.1, by simpa using hb.2.2⟩
theorem cmpE_ok {a b : RV} (ha : formP a = 0) (hb : formP b = 0) (ht : a.ty = b.ty) : cmpE a b = 0 ∧ cmpX a b = cmpV a b := by
  have : cmpBad a b = false := by
    unfold cmpBad
    rw [decide_eq_true ha, decide_eq_true hb, decide_eq_false (by simpa using ht)]; rfl
  unfold cmpE cmpX
  rw [this]
  exact ⟨rfl, rfl⟩
theorem order_law {a b c : RV} (h1 : cmpE a b = 0) (h2 : cmpE b c = 0) : cmpE a c = 0 ∧ cmpE a a = 0 ∧ cmpX a a = 0 ∧ (0 < cmpX a b ∨ 0 < cmpX b c ∨ cmpX a c ≤ 0) ∧ (cmpX a b = 0 → cmpX b c = cmpX a c) := by
  obtain ⟨_, fa, fb, t1⟩ := cmpE_zero h1
  obtain ⟨_, _, fc, t2⟩ := cmpE_zero h2
  obtain ⟨_, x1⟩ := cmpE_ok fa fb t1
  obtain ⟨_, x2⟩ := cmpE_ok fb fc t2
  obtain ⟨e3, x3⟩ := cmpE_ok fa fc (t1.trans t2)
  obtain ⟨e4, x4⟩ := cmpE_ok fa fa rfl
  obtain ⟨g1, g2⟩ := cmp_trans fa fb fc t1 t2
  rw [x1, x2, x3, x4]
  refine ⟨e3, e4, cmp_self fa, ?_, g2⟩
  by_cases p : 0 < cmpV a b
  · exact .inl p
  · by_cases q : 0 < cmpV b c
    · exact .inr (.inl q)
    · exact .inr (.inr (g1 (by omega) (by omega)))
set_option maxHeartbeats 4000000 in
set_option maxRecDepth 100000 in
theorem order_walk (ta : Nat) (na : Bool) (ia : Int) (xa : ByteArray) (ba : Bool) (tb : Nat) (nb : Bool) (ib : Int) (xb : ByteArray) (bb : Bool) (tc : Nat) (nc : Bool) (ic : Int) (xc : ByteArray) (bc : Bool)
    (hsa : xa.size ≤ 9223372036854775807) (hsb : xb.size ≤ 9223372036854775807) (hsc : xc.size ≤ 9223372036854775807) (w : World) (hE : Env w) :
    Calls Tryz.prog 6 #[.agg #[.int .u8 (ta : Int), .bool na, .int .i64 ia, .string xa, .bool ba], .agg #[.int .u8 (tb : Int), .bool nb, .int .i64 ib, .string xb, .bool bb], .agg #[.int .u8 (tc : Int), .bool nc, .int .i64 ic, .string xc, .bool bc]] w (fun e w' => e = .returned (.bool true) ∧ Below w.heap.size w w') := by
  obtain ⟨W0, hW0⟩ : ∃ W, W = w.alloc (.cells #[.int .u8 (ta : Int), .bool na, .int .i64 ia, .string xa, .bool ba] 50) := ⟨_, rfl⟩
  obtain ⟨W1, hW1⟩ : ∃ W, W = W0.alloc (.cells #[.int .u8 (tb : Int), .bool nb, .int .i64 ib, .string xb, .bool bb] 50) := ⟨_, rfl⟩
  obtain ⟨W, hW⟩ : ∃ W, W = W1.alloc (.cells #[.int .u8 (tc : Int), .bool nc, .int .i64 ic, .string xc, .bool bc] 50) := ⟨_, rfl⟩
  have hz0 : W0.heap.size = w.heap.size + 1 := by rw [hW0]; simp
  have hz1 : W1.heap.size = w.heap.size + 2 := by rw [hW1]; simp [hz0]
  have hA : Has W w.heap.size [.int .u8 (ta : Int), .bool na, .int .i64 ia, .string xa, .bool ba] 50 := by rw [hW, hW1, hW0]; exact ((Has.new w _ 50).alloc _).alloc _
  have hB : Has W (w.heap.size + 1) [.int .u8 (tb : Int), .bool nb, .int .i64 ib, .string xb, .bool bb] 50 := by
    have := Has.new W0 [.int .u8 (tb : Int), .bool nb, .int .i64 ib, .string xb, .bool bb] 50
    rw [hz0] at this
    rw [hW, hW1]; exact this.alloc _
  have hC : Has W (w.heap.size + 2) [.int .u8 (tc : Int), .bool nc, .int .i64 ic, .string xc, .bool bc] 50 := by
    have := Has.new W1 [.int .u8 (tc : Int), .bool nc, .int .i64 ic, .string xc, .bool bc] 50
    rw [hz1] at this
    rw [hW]; exact this
  have hBW : Below w.heap.size w W := by rw [hW, hW1, hW0]; exact (((Below.refl _ _).alloc (Nat.le_refl _) _).alloc (by simp) _).alloc (by simp; omega) _
  have hEW := hE.below hBW
  have kA := fun w' (hb : Below W.heap.size W w') => hA.only (Only.of_below hb) (Nat.not_le.2 hA.lt)
  have kB := fun w' (hb : Below W.heap.size W w') => hB.only (Only.of_below hb) (Nat.not_le.2 hB.lt)
  have kC := fun w' (hb : Below W.heap.size W w') => hC.only (Only.of_below hb) (Nat.not_le.2 hC.lt)
  have aw := fun w' (hb : Below W.heap.size W w') => awake_any w' (hEW.below hb)
  have c1 := fun w' (hb : Below W.heap.size W w') => compare_any ta na ia xa ba tb nb ib xb bb hsa hsb w' (hEW.below hb)
  have c2 := fun w' (hb : Below W.heap.size W w') => compare_any tb nb ib xb bb tc nc ic xc bc hsb hsc w' (hEW.below hb)
  have c3 := fun w' (hb : Below W.heap.size W w') => compare_any ta na ia xa ba tc nc ic xc bc hsa hsc w' (hEW.below hb)
  have c4 := fun w' (hb : Below W.heap.size W w') => compare_any ta na ia xa ba ta na ia xa ba hsa hsa w' (hEW.below hb)
  have law := order_law (a := ⟨ta, na, ia, xa, ba⟩) (b := ⟨tb, nb, ib, xb, bb⟩) (c := ⟨tc, nc, ic, xc, bc⟩)
  simp only [cmpRes_xe] at c1 c2 c3 c4
  generalize cmpX ⟨ta, na, ia, xa, ba⟩ ⟨tb, nb, ib, xb, bb⟩ = x at *
  generalize cmpX ⟨tb, nb, ib, xb, bb⟩ ⟨tc, nc, ic, xc, bc⟩ = y at *
  generalize cmpX ⟨ta, na, ia, xa, ba⟩ ⟨tc, nc, ic, xc, bc⟩ = z at *
  generalize cmpX ⟨ta, na, ia, xa, ba⟩ ⟨ta, na, ia, xa, ba⟩ = v at *
  generalize cmpE ⟨ta, na, ia, xa, ba⟩ ⟨tb, nb, ib, xb, bb⟩ = e1 at *
  generalize cmpE ⟨tb, nb, ib, xb, bb⟩ ⟨tc, nc, ic, xc, bc⟩ = e2 at *
  generalize cmpE ⟨ta, na, ia, xa, ba⟩ ⟨tc, nc, ic, xc, bc⟩ = e3 at *
  generalize cmpE ⟨ta, na, ia, xa, ba⟩ ⟨ta, na, ia, xa, ba⟩ = e4 at *
  have hgr := fun wx => great_any [⟨ta, na, ia, xa, ba⟩, ⟨tb, nb, ib, xb, bb⟩, ⟨tc, nc, ic, xc, bc⟩] (some ⟨wx, 0, none⟩) 3
  generalize greatP [⟨ta, na, ia, xa, ba⟩, ⟨tb, nb, ib, xb, bb⟩, ⟨tc, nc, ic, xc, bc⟩] = gr at *
  have a0 := hA.cell (o := 0) rfl
  have a1 := hA.cell (o := 1) rfl
  have a2 := hA.cell (o := 2) rfl
  have a3 := hA.cell (o := 3) rfl
  have a4 := hA.cell (o := 4) rfl
  have b0 := hB.cell (o := 0) rfl
  have b1 := hB.cell (o := 1) rfl
  have b2 := hB.cell (o := 2) rfl
  have b3 := hB.cell (o := 3) rfl
  have b4 := hB.cell (o := 4) rfl
  have d0 := hC.cell (o := 0) rfl
  have d1 := hC.cell (o := 1) rfl
  have d2 := hC.cell (o := 2) rfl
  have d3 := hC.cell (o := 3) rfl
  have d4 := hC.cell (o := 4) rfl
  replace hW := Lib.hid hW
  replace hW0 := Lib.hid hW0
  replace hW1 := Lib.hid hW1
  replace hz0 := Lib.hid hz0
  replace hz1 := Lib.hid hz1
  replace kA := Lib.hid kA
  replace kB := Lib.hid kB
  replace kC := Lib.hid kC
  replace aw := Lib.hid aw
  replace c1 := Lib.hid c1
  replace c2 := Lib.hid c2
  replace c3 := Lib.hid c3
  replace c4 := Lib.hid c4
  replace law := Lib.hid law
  replace hgr := Lib.hid hgr
  replace hBW := Lib.hid hBW
  clear hA hB hC hE hEW
  go_enter Tryz.func6, Tryz.ntmps6
  go_upto_region 1 with fail
  rw [← hW0.out, ← hW1.out, ← hW.out]
  go_wp2_with fail
  refine (aw.out W (Below.refl _ _)).mono ?_
  rintro e w1 ⟨rfl, hb1⟩
  clear a0 a1 a2 a3 a4 b0 b1 b2 b3 b4 d0 d1 d2 d3 d4
  have Ka := kA.out w1 hb1
  have a0 := Ka.cell (o := 0) rfl
  have a1 := Ka.cell (o := 1) rfl
  have a2 := Ka.cell (o := 2) rfl
  have a3 := Ka.cell (o := 3) rfl
  have a4 := Ka.cell (o := 4) rfl
  clear Ka
  have Kb := kB.out w1 hb1
  have b0 := Kb.cell (o := 0) rfl
  have b1 := Kb.cell (o := 1) rfl
  have b2 := Kb.cell (o := 2) rfl
  have b3 := Kb.cell (o := 3) rfl
  have b4 := Kb.cell (o := 4) rfl
  clear Kb
  have Kd := kC.out w1 hb1
  have d0 := Kd.cell (o := 0) rfl
  have d1 := Kd.cell (o := 1) rfl
  have d2 := Kd.cell (o := 2) rfl
  have d3 := Kd.cell (o := 3) rfl
  have d4 := Kd.cell (o := 4) rfl
  clear Kd
  have hV := Has.new w1 [.int .u8 (ta : Int), .bool na, .int .i64 ia, .string xa, .bool ba, .int .u8 (tb : Int), .bool nb, .int .i64 ib, .string xb, .bool bb, .int .u8 (tc : Int), .bool nc, .int .i64 ic, .string xc, .bool bc] 50
  have hg1 := hgr.out w1.heap.size _ (Rd.of_has hV 3 3) (by simp)
  have hbv : Below W.heap.size W (w1.alloc (.cells #[.int .u8 (ta : Int), .bool na, .int .i64 ia, .string xa, .bool ba, .int .u8 (tb : Int), .bool nb, .int .i64 ib, .string xb, .bool bb, .int .u8 (tc : Int), .bool nc, .int .i64 ic, .string xc, .bool bc] 50)) := hb1.alloc hb1.size _
  replace hg1 := Lib.hid hg1
  replace hb1 := Lib.hid hb1
  replace hbv := Lib.hid hbv
  clear hV
  go_wp2_with fail
  refine hg1.out.mono ?_
  rintro e w2 ⟨rfl, hb12⟩
  have hb2 := hbv.out.trans (hb12.mono hbv.out.size)
  clear hb12 hg1 hbv hgr a0 a1 a2 a3 a4 b0 b1 b2 b3 b4 d0 d1 d2 d3 d4
  cases gr with
  | true =>
    replace hb2 := Lib.hid hb2
    go_wp2_with fail
    refine (aw.out w2 hb2.out).mono ?_
    rintro e w3 ⟨rfl, hb23⟩
    have hf := hBW.out.trans ((hb2.out.trans (hb23.mono hb2.out.size)).mono hBW.out.size)
    replace hf := Lib.hid hf
    clear hb23
    go_wp2_with fail
    go_ret
    exact ⟨rfl, hf.out⟩
  | false =>
    have Ka := kA.out w2 hb2
    have a0 := Ka.cell (o := 0) rfl
    have a1 := Ka.cell (o := 1) rfl
    have a2 := Ka.cell (o := 2) rfl
    have a3 := Ka.cell (o := 3) rfl
    have a4 := Ka.cell (o := 4) rfl
    clear Ka
    have Kb := kB.out w2 hb2
    have b0 := Kb.cell (o := 0) rfl
    have b1 := Kb.cell (o := 1) rfl
    have b2 := Kb.cell (o := 2) rfl
    have b3 := Kb.cell (o := 3) rfl
    have b4 := Kb.cell (o := 4) rfl
    clear Kb
    have q := c1.out w2 hb2
    replace q := Lib.hid q
    replace hb2 := Lib.hid hb2
    go_wp2_with fail
    refine q.out.mono ?_
    rintro e w3 ⟨rfl, hbt⟩
    have hb3 := hb2.out.trans (hbt.mono hb2.out.size)
    clear hbt q a0 a1 a2 a3 a4 b0 b1 b2 b3 b4
    have Kb := kB.out w3 hb3
    have b0 := Kb.cell (o := 0) rfl
    have b1 := Kb.cell (o := 1) rfl
    have b2 := Kb.cell (o := 2) rfl
    have b3 := Kb.cell (o := 3) rfl
    have b4 := Kb.cell (o := 4) rfl
    clear Kb
    have Kd := kC.out w3 hb3
    have d0 := Kd.cell (o := 0) rfl
    have d1 := Kd.cell (o := 1) rfl
    have d2 := Kd.cell (o := 2) rfl
    have d3 := Kd.cell (o := 3) rfl
    have d4 := Kd.cell (o := 4) rfl
    clear Kd
    have q := c2.out w3 hb3
    replace q := Lib.hid q
    replace hb3 := Lib.hid hb3
    go_wp2_with fail
    refine q.out.mono ?_
    rintro e w4 ⟨rfl, hbt⟩
    have hb4 := hb3.out.trans (hbt.mono hb3.out.size)
    clear hbt q b0 b1 b2 b3 b4 d0 d1 d2 d3 d4
    have Ka := kA.out w4 hb4
    have a0 := Ka.cell (o := 0) rfl
    have a1 := Ka.cell (o := 1) rfl
    have a2 := Ka.cell (o := 2) rfl
    have a3 := Ka.cell (o := 3) rfl
    have a4 := Ka.cell (o := 4) rfl
    clear Ka
    have Kd := kC.out w4 hb4
    have d0 := Kd.cell (o := 0) rfl
    have d1 := Kd.cell (o := 1) rfl
    have d2 := Kd.cell (o := 2) rfl
    have d3 := Kd.cell (o := 3) rfl
    have d4 := Kd.cell (o := 4) rfl
    clear Kd
    have q := c3.out w4 hb4
    replace q := Lib.hid q
    replace hb4 := Lib.hid hb4
    go_wp2_with fail
    refine q.out.mono ?_
    rintro e w5 ⟨rfl, hbt⟩
    have hb5 := hb4.out.trans (hbt.mono hb4.out.size)
    clear hbt q a0 a1 a2 a3 a4 d0 d1 d2 d3 d4
    by_cases h1 : e1 = 0
    · by_cases h2 : e2 = 0
      · obtain ⟨l1, l2, l3, l4, l5⟩ := law.out h1 h2
        have i1 : ((e1 : Int) != 0) = false := by simp [h1]
        have i2 : ((e2 : Int) != 0) = false := by simp [h2]
        subst l3
        have i3 : ((e3 : Int) == 0) = true := by simp [l1]
        have i4 : ((e4 : Int) == 0) = true := by simp [l2]
        replace h1 := Lib.hid h1
        replace h2 := Lib.hid h2
        replace l1 := Lib.hid l1
        replace l2 := Lib.hid l2
        have Ka := kA.out w5 hb5
        have a0 := Ka.cell (o := 0) rfl
        have a1 := Ka.cell (o := 1) rfl
        have a2 := Ka.cell (o := 2) rfl
        have a3 := Ka.cell (o := 3) rfl
        have a4 := Ka.cell (o := 4) rfl
        clear Ka
        have q := c4.out w5 hb5
        replace q := Lib.hid q
        replace hb5 := Lib.hid hb5
        go_wp2_with fail
        refine q.out.mono ?_
        rintro e w6 ⟨rfl, hbt⟩
        have hb6 := hb5.out.trans (hbt.mono hb5.out.size)
        have hf := hBW.out.trans (hb6.mono hBW.out.size)
        replace hf := Lib.hid hf
        clear hbt q hb6 a0 a1 a2 a3 a4
        have key : (decide (x > 0) || (decide (y > 0) || decide (z ≤ 0))) = true := by
          rcases l4 with h | h | h
          · rw [decide_eq_true (show x > 0 by omega)]; rfl
          · rw [decide_eq_true (show y > 0 by omega)]; cases decide (x > 0) <;> rfl
          · rw [decide_eq_true h]; cases decide (x > 0) <;> cases decide (y > 0) <;> rfl
        have key2 : ((x != 0) || (y == z)) = true := by
          by_cases h : x = 0
          · rw [l5 h]; simp
          · simp [h]
        clear l4 l5
        by_cases p1 : x > 0
        · have p2 : (x != 0) = true := by simp; omega
          replace key := Lib.hid key
          replace key2 := Lib.hid key2
          go_wp2_with fail
          go_ret
          exact ⟨rfl, hf.out⟩
        · have p1b : decide (x > 0) = false := decide_eq_false p1
          rw [p1b, Bool.false_or] at key
          by_cases p2 : x = 0
          · have p3 : (x != 0) = false := by simp [p2]
            rw [p3, Bool.false_or] at key2
            replace p2 := Lib.hid p2
            by_cases p4 : y > 0
            · replace key := Lib.hid key
              go_wp2_with fail
              go_ret
              exact ⟨rfl, hf.out⟩
            · rw [decide_eq_false p4, Bool.false_or] at key
              have p5 : z ≤ 0 := of_decide_eq_true key
              replace key := Lib.hid key
              go_wp2_with fail
              go_ret
              exact ⟨rfl, hf.out⟩
          · have p3 : (x != 0) = true := by simp [p2]
            replace key2 := Lib.hid key2
            replace p2 := Lib.hid p2
            by_cases p4 : y > 0
            · replace key := Lib.hid key
              go_wp2_with fail
              go_ret
              exact ⟨rfl, hf.out⟩
            · rw [decide_eq_false p4, Bool.false_or] at key
              have p5 : z ≤ 0 := of_decide_eq_true key
              replace key := Lib.hid key
              go_wp2_with fail
              go_ret
              exact ⟨rfl, hf.out⟩
      · have i1 : ((e1 : Int) != 0) = false := by simp [h1]
        have i2 : ((e2 : Int) != 0) = true := by simp [h2]
        have hf := hBW.out.trans (hb5.mono hBW.out.size)
        replace hf := Lib.hid hf
        replace h1 := Lib.hid h1
        replace h2 := Lib.hid h2
        clear hb5
        go_wp2_with fail
        go_ret
        exact ⟨rfl, hf.out⟩
    · have i1 : ((e1 : Int) != 0) = true := by simp [h1]
      have hf := hBW.out.trans (hb5.mono hBW.out.size)
      replace hf := Lib.hid hf
      replace h1 := Lib.hid h1
      clear hb5
      go_wp2_with fail
      go_ret
      exact ⟨rfl, hf.out⟩
end Go.Proofs.YtpjbcadelmjmfaaGreatDoor
