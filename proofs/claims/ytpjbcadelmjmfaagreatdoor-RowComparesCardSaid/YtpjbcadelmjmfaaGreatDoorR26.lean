/- The walk of RowCompares. -/
import Derived.Test.YtpjbcadelmjmfaaGreatDoorR24
import Derived.Test.YtpjbcadelmjmfaaGreatDoorR25
import Derived.Test.YtpjbcadelmjmfaaGreatDoorR19
namespace Go.Proofs.YtpjbcadelmjmfaaGreatDoor
open Go.RowKit Go.Lib Go.BigFrame
set_option linter.unusedVariables false

theorem same_law (a b : RV) : cmpE b a = cmpE a b ∧ cmpX b a = - cmpX a b ∧ rcmpRes a b = .tuple #[.int .i64 (cmpX a b), .int .i64 (cmpE a b : Nat)] ∧ (cmpX a b = -1 ∨ cmpX a b = 0 ∨ cmpX a b = 1) ∧
    (cmpE a b = 0 → keyE a = 0 ∧ keyE b = 0) := by
  have hs : cmpBad b a = cmpBad a b := by
    unfold cmpBad
    have : decide (b.ty ≠ a.ty) = decide (a.ty ≠ b.ty) := by rw [Bool.eq_iff_iff]; simp; omega
    rw [this]
    cases decide (formP a = 0) <;> cases decide (formP b = 0) <;> rfl
  cases hb : cmpBad a b with
  | true =>
    unfold cmpE cmpX rcmpRes
    rw [hs, hb]
    simp
  | false =>
    have he : cmpE a b = 0 := by unfold cmpE; rw [hb]; rfl
    obtain ⟨_, fa, fb, ht⟩ := cmpE_zero he
    have h1 := cmp_same fa fb ht
    have h2 := cmp_neg fa fb ht
    have h3 := cmp_range fa fb ht
    unfold cmpE cmpX rcmpRes keyE
    rw [hs, hb, if_pos fa, if_pos fb]
    refine ⟨rfl, by simpa using h2, by simp [h1], by simpa using h3, fun _ => ⟨rfl, rfl⟩⟩
theorem key_law {a b : RV} (h : cmpE a b = 0) : (cmpX a b = 0 → keyX a = keyX b) ∧ (a.ty = 2 ∨ 0 < cmpX a b ∨ keyX a ≤ keyX b) := by
  obtain ⟨_, fa, fb, ht⟩ := cmpE_zero h
  have hx : cmpX a b = cmpV a b := (cmpE_ok fa fb ht).2
  rw [hx, cmp_rank fa fb ht]
  unfold keyX
  rw [if_pos fa, if_pos fb]
  obtain ⟨a0, a1, a2, a3, a4, _, _⟩ := form_parts fa
  obtain ⟨b0, b1, b2, b3, b4, _, _⟩ := form_parts fb
  have hr := cb_range a.tx.data.toList b.tx.data.toList
  have heq := cb_eq a.tx.data.toList b.tx.data.toList
  have hsf : ∀ l, compareBytes l l = 0 := cb_self
  obtain ⟨ta, na, ia, xa, ba⟩ := a
  obtain ⟨tb, nb, ib, xb, bb⟩ := b
  simp only at *
  subst ht
  unfold rankV hashT b2i
  simp only
  obtain rfl | rfl | rfl : ta = 1 ∨ ta = 2 ∨ ta = 3 := by omega
  · obtain rfl := a2 (.inl (by omega))
    obtain rfl := b2 (.inl (by omega))
    obtain rfl := a3 (.inl (by omega))
    obtain rfl := b3 (.inl (by omega))
    rw [hsf]
    clear heq hr hsf a1 b1 a2 b2 a3 b3
    cases na <;> cases nb <;> simp at * <;> (repeat' split) <;> omega
  · refine ⟨fun h0 => ?_, .inl rfl⟩
    obtain rfl := a1 (.inl (by omega))
    obtain rfl := b1 (.inl (by omega))
    obtain rfl := a3 (.inl (by omega))
    obtain rfl := b3 (.inl (by omega))
    cases na
    · cases nb
      · simp at h0 ⊢
        rw [heq h0]
      · simp at h0
    · cases nb
      · simp at h0
      · simp
  · obtain rfl := a1 (.inl (by omega))
    obtain rfl := b1 (.inl (by omega))
    obtain rfl := a2 (.inl (by omega))
    obtain rfl := b2 (.inl (by omega))
    rw [hsf]
    cases na <;> cases nb <;> cases ba <;> cases bb <;> simp at *
set_option maxHeartbeats 8000000 in
set_option maxRecDepth 100000 in
theorem compares_walk (ta : Nat) (na : Bool) (ia : Int) (xa : ByteArray) (ba : Bool) (tb : Nat) (nb : Bool) (ib : Int) (xb : ByteArray) (bb : Bool) (wa : ta < 256) (wb : tb < 256)
    (hsa : xa.size ≤ 9223372036854775807) (hsb : xb.size ≤ 9223372036854775807) (w : World) (hE : Env w) :
    Calls Tryz.prog 11 #[.agg #[.int .u8 (ta : Int), .bool na, .int .i64 ia, .string xa, .bool ba], .agg #[.int .u8 (tb : Int), .bool nb, .int .i64 ib, .string xb, .bool bb]] w (fun e w' => e = .returned (.bool true) ∧ Below w.heap.size w w') := by
  obtain ⟨W0, hW0⟩ : ∃ W, W = w.alloc (.cells #[.int .u8 (ta : Int), .bool na, .int .i64 ia, .string xa, .bool ba] 50) := ⟨_, rfl⟩
  obtain ⟨W, hW⟩ : ∃ W, W = W0.alloc (.cells #[.int .u8 (tb : Int), .bool nb, .int .i64 ib, .string xb, .bool bb] 50) := ⟨_, rfl⟩
  have hz0 : W0.heap.size = w.heap.size + 1 := by rw [hW0]; simp
  have hA : Has W w.heap.size [.int .u8 (ta : Int), .bool na, .int .i64 ia, .string xa, .bool ba] 50 := by rw [hW, hW0]; exact (Has.new w _ 50).alloc _
  have hB : Has W (w.heap.size + 1) [.int .u8 (tb : Int), .bool nb, .int .i64 ib, .string xb, .bool bb] 50 := by
    have := Has.new W0 [.int .u8 (tb : Int), .bool nb, .int .i64 ib, .string xb, .bool bb] 50
    rw [hz0] at this
    rw [hW]; exact this
  have hBW : Below w.heap.size w W := by rw [hW, hW0]; exact ((Below.refl _ _).alloc (Nat.le_refl _) _).alloc (by simp) _
  have hEW := hE.below hBW
  have kA := fun w' (hb : Below W.heap.size W w') => hA.only (Only.of_below hb) (Nat.not_le.2 hA.lt)
  have kB := fun w' (hb : Below W.heap.size W w') => hB.only (Only.of_below hb) (Nat.not_le.2 hB.lt)
  have aw := fun w' (hb : Below W.heap.size W w') => awake_any w' (hEW.below hb)
  have c1 := fun w' (hb : Below W.heap.size W w') => compare_any ta na ia xa ba tb nb ib xb bb hsa hsb w' (hEW.below hb)
  have c2 := fun w' (hb : Below W.heap.size W w') => compare_any tb nb ib xb bb ta na ia xa ba hsb hsa w' (hEW.below hb)
  have c3 := fun w' => rcompare_any ta na ia xa ba tb nb ib xb bb hsa hsb w'
  have c4 := fun w' (hb : Below W.heap.size W w') => key_any ta na ia xa ba hsa w' (hEW.below hb)
  have c5 := fun w' (hb : Below W.heap.size W w') => key_any tb nb ib xb bb hsb w' (hEW.below hb)
  have c6 := fun w' => rkey_any ta na ia xa ba hsa w'
  have c7 := fun w' => rkey_any tb nb ib xb bb hsb w'
  have va := fun w' => value_any ta na ia xa ba wa w'
  have vb := fun w' => value_any tb nb ib xb bb wb w'
  obtain ⟨s1, s2, s3, s4, s5⟩ := same_law ⟨ta, na, ia, xa, ba⟩ ⟨tb, nb, ib, xb, bb⟩
  have law := key_law (a := ⟨ta, na, ia, xa, ba⟩) (b := ⟨tb, nb, ib, xb, bb⟩)
  rw [cmpRes_xe] at c1
  rw [cmpRes_xe, s1, s2] at c2
  rw [s3] at c3
  clear s1 s2 s3
  generalize cmpX ⟨ta, na, ia, xa, ba⟩ ⟨tb, nb, ib, xb, bb⟩ = x at *
  generalize cmpE ⟨ta, na, ia, xa, ba⟩ ⟨tb, nb, ib, xb, bb⟩ = e1 at *
  generalize keyX ⟨ta, na, ia, xa, ba⟩ = ka at *
  generalize keyX ⟨tb, nb, ib, xb, bb⟩ = kb at *
  generalize keyE ⟨ta, na, ia, xa, ba⟩ = ea at *
  generalize keyE ⟨tb, nb, ib, xb, bb⟩ = eb at *
  have law := law
  simp only at law
  have hgr := fun wx => great_any [⟨ta, na, ia, xa, ba⟩, ⟨tb, nb, ib, xb, bb⟩] (some ⟨wx, 0, none⟩) 2
  generalize greatP [⟨ta, na, ia, xa, ba⟩, ⟨tb, nb, ib, xb, bb⟩] = gr at *
  have a0 := hA.cell (o := 0) rfl
  have a1 := hA.cell (o := 1) rfl
  have a2 := hA.cell (o := 2) rfl
  have a3 := hA.cell (o := 3) rfl
  have a4 := hA.cell (o := 4) rfl
  have b0 := hB.cell (o := 0) rfl
  have b1 := hB.cell (o := 1) rfl
  have b2 := hB.cell (o := 2) rfl
  have b3 := hB.cell (o := 3) rfl
  have b4 := hB.cell (o := 4) rfl
  replace hW := Lib.hid hW
  replace hW0 := Lib.hid hW0
  replace hz0 := Lib.hid hz0
  replace kA := Lib.hid kA
  replace kB := Lib.hid kB
  replace aw := Lib.hid aw
  replace c1 := Lib.hid c1
  replace c2 := Lib.hid c2
  replace c3 := Lib.hid c3
  replace c4 := Lib.hid c4
  replace c5 := Lib.hid c5
  replace c6 := Lib.hid c6
  replace c7 := Lib.hid c7
  replace va := Lib.hid va
  replace vb := Lib.hid vb
  replace law := Lib.hid law
  replace hgr := Lib.hid hgr
  replace hBW := Lib.hid hBW
  replace s4 := Lib.hid s4
  replace s5 := Lib.hid s5
  clear hA hB hE hEW
  go_enter Tryz.func11, Tryz.ntmps11
  go_upto_region 1 with fail
  rw [← hW0.out, ← hW.out]
  go_wp2_with fail
  refine (aw.out W (Below.refl _ _)).mono ?_
  rintro e w1 ⟨rfl, hb1⟩
  clear a0 a1 a2 a3 a4 b0 b1 b2 b3 b4
  have Ka := kA.out w1 hb1
  have a0 := Ka.cell (o := 0) rfl
  have a1 := Ka.cell (o := 1) rfl
  have a2 := Ka.cell (o := 2) rfl
  have a3 := Ka.cell (o := 3) rfl
  have a4 := Ka.cell (o := 4) rfl
  clear Ka
  have Kb := kB.out w1 hb1
  have b0 := Kb.cell (o := 0) rfl
  have b1 := Kb.cell (o := 1) rfl
  have b2 := Kb.cell (o := 2) rfl
  have b3 := Kb.cell (o := 3) rfl
  have b4 := Kb.cell (o := 4) rfl
  clear Kb
  have hV := Has.new w1 [.int .u8 (ta : Int), .bool na, .int .i64 ia, .string xa, .bool ba, .int .u8 (tb : Int), .bool nb, .int .i64 ib, .string xb, .bool bb] 50
  have hg1 := hgr.out w1.heap.size _ (Rd.of_has hV 2 2) (by simp)
  have hbv : Below W.heap.size W (w1.alloc (.cells #[.int .u8 (ta : Int), .bool na, .int .i64 ia, .string xa, .bool ba, .int .u8 (tb : Int), .bool nb, .int .i64 ib, .string xb, .bool bb] 50)) := hb1.alloc hb1.size _
  replace hg1 := Lib.hid hg1
  replace hb1 := Lib.hid hb1
  replace hbv := Lib.hid hbv
  clear hV
  go_wp2_with fail
  refine hg1.out.mono ?_
  rintro e w2 ⟨rfl, hb12⟩
  have hb2 := hbv.out.trans (hb12.mono hbv.out.size)
  clear hb12 hg1 hbv hgr a0 a1 a2 a3 a4 b0 b1 b2 b3 b4
  cases gr with
  | true =>
    replace hb2 := Lib.hid hb2
    go_wp2_with fail
    refine (aw.out w2 hb2.out).mono ?_
    rintro e w3 ⟨rfl, hb23⟩
    have hf := hBW.out.trans ((hb2.out.trans (hb23.mono hb2.out.size)).mono hBW.out.size)
    replace hf := Lib.hid hf
    clear hb23
    go_wp2_with fail
    go_ret
    exact ⟨rfl, hf.out⟩
  | false =>
    have Ka := kA.out w2 hb2
    have a0 := Ka.cell (o := 0) rfl
    have a1 := Ka.cell (o := 1) rfl
    have a2 := Ka.cell (o := 2) rfl
    have a3 := Ka.cell (o := 3) rfl
    have a4 := Ka.cell (o := 4) rfl
    clear Ka
    have Kb := kB.out w2 hb2
    have b0 := Kb.cell (o := 0) rfl
    have b1 := Kb.cell (o := 1) rfl
    have b2 := Kb.cell (o := 2) rfl
    have b3 := Kb.cell (o := 3) rfl
    have b4 := Kb.cell (o := 4) rfl
    clear Kb
    have q := c1.out w2 hb2
    replace q := Lib.hid q
    replace hb2 := Lib.hid hb2
    go_wp2_with fail
    refine q.out.mono ?_
    rintro e w3 ⟨rfl, hbt⟩
    have hb3 := hb2.out.trans (hbt.mono hb2.out.size)
    clear hbt q a0 a1 a2 a3 a4 b0 b1 b2 b3 b4
    have Ka := kA.out w3 hb3
    have a0 := Ka.cell (o := 0) rfl
    have a1 := Ka.cell (o := 1) rfl
    have a2 := Ka.cell (o := 2) rfl
    have a3 := Ka.cell (o := 3) rfl
    have a4 := Ka.cell (o := 4) rfl
    clear Ka
    have Kb := kB.out w3 hb3
    have b0 := Kb.cell (o := 0) rfl
    have b1 := Kb.cell (o := 1) rfl
    have b2 := Kb.cell (o := 2) rfl
    have b3 := Kb.cell (o := 3) rfl
    have b4 := Kb.cell (o := 4) rfl
    clear Kb
    have q := c2.out w3 hb3
    replace q := Lib.hid q
    replace hb3 := Lib.hid hb3
    go_wp2_with fail
    refine q.out.mono ?_
    rintro e w4 ⟨rfl, hbt⟩
    have hb4 := hb3.out.trans (hbt.mono hb3.out.size)
    clear hbt q a0 a1 a2 a3 a4 b0 b1 b2 b3 b4
    replace hb4 := Lib.hid hb4
    go_upto_region 5 with fail
    go_cut [9, 10] (fun p q wx => p = .int .i64 x ∧ q = .int .i64 (e1 : Int) ∧ Below W.heap.size W wx)
    case first =>
      refine wp_region_quietC (C := fun w' => Below W.heap.size W w') (by kernel_rfl) (by kernel_rfl) (below_drew hb4.out) ?_
      have cA : ∀ wx, Below W.heap.size W wx → Calls Tryz.prog 25 #[.agg #[.int .u8 (ta : Int), .bool na, .int .i64 ia, .string xa, .bool ba]] wx (fun e w'' => e = .returned (.agg #[.int .i64 (ta : Int), .bool na, .int .i64 ia, .string xa, .bool ba]) ∧ Below W.heap.size W w'') := fun wx hx => (va.out wx).mono fun e w'' ⟨he, hb⟩ => ⟨he, hx.trans (hb.mono hx.size)⟩
      have cB : ∀ wx, Below W.heap.size W wx → Calls Tryz.prog 25 #[.agg #[.int .u8 (tb : Int), .bool nb, .int .i64 ib, .string xb, .bool bb]] wx (fun e w'' => e = .returned (.agg #[.int .i64 (tb : Int), .bool nb, .int .i64 ib, .string xb, .bool bb]) ∧ Below W.heap.size W w'') := fun wx hx => (vb.out wx).mono fun e w'' ⟨he, hb⟩ => ⟨he, hx.trans (hb.mono hx.size)⟩
      have cC : ∀ wx, Below W.heap.size W wx → Calls Tryz.prog 34 #[.agg #[.int .i64 (ta : Int), .bool na, .int .i64 ia, .string xa, .bool ba], .agg #[.int .i64 (tb : Int), .bool nb, .int .i64 ib, .string xb, .bool bb]] wx (fun e w'' => e = .returned (.tuple #[.int .i64 x, .int .i64 (e1 : Int)]) ∧ Below W.heap.size W w'') := fun wx hx => (c3.out wx).mono fun e w'' ⟨he, hb⟩ => ⟨he, hx.trans (hb.mono hx.size)⟩
      have m1 : ∀ wx, Below W.heap.size W wx → wx.cell? ⟨w.heap.size, 0, none⟩ = some (.int .u8 (ta : Int)) ∧ wx.cell? ⟨w.heap.size, 1, none⟩ = some (.bool na) ∧ wx.cell? ⟨w.heap.size, 2, none⟩ = some (.int .i64 ia) ∧ wx.cell? ⟨w.heap.size, 3, none⟩ = some (.string xa) ∧ wx.cell? ⟨w.heap.size, 4, none⟩ = some (.bool ba) := fun wx hx => by
        have h := kA.out wx hx
        exact ⟨h.cell (o := 0) rfl, h.cell (o := 1) rfl, h.cell (o := 2) rfl, h.cell (o := 3) rfl, h.cell (o := 4) rfl⟩
      have m2 : ∀ wx, Below W.heap.size W wx → wx.cell? ⟨w.heap.size + 1, 0, none⟩ = some (.int .u8 (tb : Int)) ∧ wx.cell? ⟨w.heap.size + 1, 1, none⟩ = some (.bool nb) ∧ wx.cell? ⟨w.heap.size + 1, 2, none⟩ = some (.int .i64 ib) ∧ wx.cell? ⟨w.heap.size + 1, 3, none⟩ = some (.string xb) ∧ wx.cell? ⟨w.heap.size + 1, 4, none⟩ = some (.bool bb) := fun wx hx => by
        have h := kB.out wx hx
        exact ⟨h.cell (o := 0) rfl, h.cell (o := 1) rfl, h.cell (o := 2) rfl, h.cell (o := 3) rfl, h.cell (o := 4) rfl⟩
      replace cA := Lib.hid cA
      replace cB := Lib.hid cB
      replace cC := Lib.hid cC
      replace m1 := Lib.hid m1
      replace m2 := Lib.hid m2
      go_big_quiet_want; go_big_quiet_op
      refine ⟨.agg #[.int .u8 (ta : Int), .bool na, .int .i64 ia, .string xa, .bool ba], fun wx hx => by simp [go_sem, (m1.out wx hx).1, (m1.out wx hx).2.1, (m1.out wx hx).2.2.1, (m1.out wx hx).2.2.2.1, (m1.out wx hx).2.2.2.2], ?_⟩
      go_big_quiet_on
      go_big_quiet_want; go_big_quiet_op
      refine ⟨.agg #[.int .i64 (ta : Int), .bool na, .int .i64 ia, .string xa, .bool ba], fun wx hx => cA.out wx hx, ?_⟩
      go_big_quiet_on
      go_big_quiet_want; go_big_quiet_op
      refine ⟨.agg #[.int .u8 (tb : Int), .bool nb, .int .i64 ib, .string xb, .bool bb], fun wx hx => by simp [go_sem, (m2.out wx hx).1, (m2.out wx hx).2.1, (m2.out wx hx).2.2.1, (m2.out wx hx).2.2.2.1, (m2.out wx hx).2.2.2.2], ?_⟩
      go_big_quiet_on
      go_big_quiet_want; go_big_quiet_op
      refine ⟨.agg #[.int .i64 (tb : Int), .bool nb, .int .i64 ib, .string xb, .bool bb], fun wx hx => cB.out wx hx, ?_⟩
      go_big_quiet_on
      go_big_quiet_want; go_big_quiet_op
      refine ⟨.tuple #[.int .i64 x, .int .i64 (e1 : Int)], fun wx hx => cC.out wx hx, ?_⟩
      go_big_quiet_on
      iterate 5 (go_big_quiet_want; go_big_quiet_op; first | go_big_quiet_on | (refine ⟨_, fun _ _ => rfl, ?_⟩; go_big_quiet_on))
      refine wpQuiet_nil ?_
      intro w' hw'
      replace hw' := Lib.hid hw'
      go_wp2_with fail
      go_meet
      exact ⟨rfl, rfl, hw'.out⟩
    rename World => w5
    obtain ⟨rfl, rfl, hb5⟩ := hcut
    have Ka := kA.out w5 hb5
    have a0 := Ka.cell (o := 0) rfl
    have a1 := Ka.cell (o := 1) rfl
    have a2 := Ka.cell (o := 2) rfl
    have a3 := Ka.cell (o := 3) rfl
    have a4 := Ka.cell (o := 4) rfl
    clear Ka
    have q := c4.out w5 hb5
    replace q := Lib.hid q
    replace hb5 := Lib.hid hb5
    go_wp2_with fail
    refine q.out.mono ?_
    rintro e w6 ⟨rfl, hbt⟩
    have hb6 := hb5.out.trans (hbt.mono hb5.out.size)
    clear hbt q a0 a1 a2 a3 a4
    have Kb := kB.out w6 hb6
    have b0 := Kb.cell (o := 0) rfl
    have b1 := Kb.cell (o := 1) rfl
    have b2 := Kb.cell (o := 2) rfl
    have b3 := Kb.cell (o := 3) rfl
    have b4 := Kb.cell (o := 4) rfl
    clear Kb
    have q := c5.out w6 hb6
    replace q := Lib.hid q
    replace hb6 := Lib.hid hb6
    go_wp2_with fail
    refine q.out.mono ?_
    rintro e w7 ⟨rfl, hbt⟩
    have hb7 := hb6.out.trans (hbt.mono hb6.out.size)
    clear hbt q b0 b1 b2 b3 b4
    have Ka := kA.out w7 hb7
    have a0 := Ka.cell (o := 0) rfl
    have a1 := Ka.cell (o := 1) rfl
    have a2 := Ka.cell (o := 2) rfl
    have a3 := Ka.cell (o := 3) rfl
    have a4 := Ka.cell (o := 4) rfl
    clear Ka
    have q := va.out w7
    replace q := Lib.hid q
    replace hb7 := Lib.hid hb7
    go_wp2_with fail
    refine q.out.mono ?_
    rintro e w8 ⟨rfl, hbt⟩
    have hb8 := hb7.out.trans (hbt.mono hb7.out.size)
    clear hbt q a0 a1 a2 a3 a4
    replace hb8 := Lib.hid hb8
    go_wp2_with fail
    refine (c6.out w8).mono ?_
    rintro e w9 ⟨rfl, hbt⟩
    have hb9 := hb8.out.trans (hbt.mono hb8.out.size)
    clear hbt
    have Kb := kB.out w9 hb9
    have b0 := Kb.cell (o := 0) rfl
    have b1 := Kb.cell (o := 1) rfl
    have b2 := Kb.cell (o := 2) rfl
    have b3 := Kb.cell (o := 3) rfl
    have b4 := Kb.cell (o := 4) rfl
    clear Kb
    have q := vb.out w9
    replace q := Lib.hid q
    replace hb9 := Lib.hid hb9
    go_wp2_with fail
    refine q.out.mono ?_
    rintro e w10 ⟨rfl, hbt⟩
    have hb10 := hb9.out.trans (hbt.mono hb9.out.size)
    clear hbt q b0 b1 b2 b3 b4
    replace hb10 := Lib.hid hb10
    go_wp2_with fail
    refine (c7.out w10).mono ?_
    rintro e w11 ⟨rfl, hbt⟩
    have hb11 := hb10.out.trans (hbt.mono hb10.out.size)
    clear hbt
    have hf := hBW.out.trans (hb11.mono hBW.out.size)
    replace hf := Lib.hid hf
    have Ka := kA.out w11 hb11
    have a0 := Ka.cell (o := 0) rfl
    clear Ka
    replace hb11 := Lib.hid hb11
    have g1 : -1 ≤ x := by have := s4.out; omega
    have g2 : x ≤ 1 := by have := s4.out; omega
    clear s5
    by_cases h1 : e1 = 0
    · obtain ⟨l1, l2⟩ := law.out h1
      have i1 : ((e1 : Int) != 0) = false := by simp [h1]
      replace h1 := Lib.hid h1
      have key1 : x = 0 → ka = kb := l1
      by_cases p1 : x = 0
      · have hk := l1 p1
        subst hk
        subst p1
        clear l1 l2 key1
        by_cases p2 : ta = 2
        · subst p2
          go_wp2_with fail
          go_ret
          exact ⟨rfl, hf.out⟩
        · have p3 : ((ta : Int) == 2) = false := by simp; omega
          replace p2 := Lib.hid p2
          go_wp2_with fail
          go_ret
          exact ⟨rfl, hf.out⟩
      · have p3 : (x != 0) = true := by simp [p1]
        replace p1 := Lib.hid p1
        clear l1 key1
        by_cases p2 : ta = 2
        · subst p2
          clear l2
          go_wp2_with fail
          go_ret
          exact ⟨rfl, hf.out⟩
        · have p4 : ((ta : Int) == 2) = false := by simp; omega
          by_cases p5 : 0 < x
          · have p6 : x > 0 := p5
            replace p2 := Lib.hid p2
            clear l2
            go_wp2_with fail
            go_ret
            exact ⟨rfl, hf.out⟩
          · have p6 : ¬ x > 0 := p5
            have p7 : ka ≤ kb := by
              rcases l2 with h | h | h
              · exact absurd h p2
              · exact absurd h p5
              · exact h
            replace p2 := Lib.hid p2
            clear l2
            go_wp2_with fail
            go_ret
            exact ⟨rfl, hf.out⟩
    · have i1 : ((e1 : Int) != 0) = true := by simp [h1]
      replace h1 := Lib.hid h1
      go_wp2_with fail
      go_ret
      exact ⟨rfl, hf.out⟩
end Go.Proofs.YtpjbcadelmjmfaaGreatDoor
