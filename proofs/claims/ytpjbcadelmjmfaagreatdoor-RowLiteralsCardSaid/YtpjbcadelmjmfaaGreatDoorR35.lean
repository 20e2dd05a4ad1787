/- The walk of RowLiterals. -/
import Derived.Test.YtpjbcadelmjmfaaGreatDoorR34
import Derived.Test.YtpjbcadelmjmfaaGreatDoorPl2
import Derived.Test.YtpjbcadelmjmfaaGreatDoorR27
namespace Go.Proofs.YtpjbcadelmjmfaaGreatDoor
open Go.RowKit Go.Lib Go.BigFrame
set_option linter.unusedVariables false

set_option maxHeartbeats 8000000 in
set_option maxRecDepth 100000 in
theorem literals_walk (s : ByteArray) (hss : s.size ≤ 9223372036854775807) (W : World) (hE : Env W) :
    Calls Tryz.prog 5 #[.string s] W (fun e w' => e = .returned (.bool true) ∧ Below W.heap.size W w') := by
  have aw := fun w' (hb : Below W.heap.size W w') => awake_any w' (hE.below hb)
  replace aw := Lib.hid aw
  by_cases hbig : 1000 < s.size
  · have hbI : (s.size : Int) > 1000 := by omega
    replace hE := Lib.hid hE
    go_enter Tryz.func5, Tryz.ntmps5
    go_upto_region 1 with fail
    go_wp2_with fail
    refine (aw.out W (Below.refl _ _)).mono ?_
    rintro e w1 ⟨rfl, hb1⟩
    replace hb1 := Lib.hid hb1
    go_wp2_with fail
    refine (aw.out w1 hb1.out).mono ?_
    rintro e w2 ⟨rfl, hb12⟩
    have hf := hb1.out.trans (hb12.mono hb1.out.size)
    replace hf := Lib.hid hf
    clear hb12
    go_wp2_with fail
    go_ret
    exact ⟨rfl, hf.out⟩
  · have hbI : ¬ (s.size : Int) > 1000 := by omega
    have c1 := fun w' (hb : Below W.heap.size W w') => literal_any s (by omega) w' (hE.below hb)
    have c2 := fun w' => rlit_any s (by omega) w'
    have tl := @text_lit s.data.toList
    have hty := lit_ty s.data.toList
    obtain ⟨x, hx⟩ : ∃ x, x = litP s.data.toList := ⟨_, rfl⟩
    rw [← hx] at c1 c2 tl hty
    obtain ⟨⟨ta, na, ia, xa, bv⟩, er⟩ := x
    have hxs : xa.size ≤ 1000000 ∨ True := .inr trivial
    have c1' : ∀ w', Below W.heap.size W w' → Calls Tryz.prog 26 #[.string s] w' (fun e w'' => e = .returned (.tuple #[.agg #[.int .u8 (ta : Int), .bool na, .int .i64 ia, .string xa, .bool bv], .int .i64 (er : Int)]) ∧ Below w'.heap.size w' w'') := c1
    have c2' : ∀ w', Calls Tryz.prog 28 #[.string s] w' (fun e w'' => e = .returned (.tuple #[.agg #[.int .i64 (ta : Int), .bool na, .int .i64 ia, .string xa, .bool bv], .int .i64 (er : Int)]) ∧ Below w'.heap.size w' w'') := c2
    have hxz : xa.size ≤ 9223372036854775807 := by
      have h := lit_size s.data.toList
      rw [← hx] at h
      have h2 : xa.size ≤ 200 := h
      omega
    have c3 := fun w' (hb : Below W.heap.size W w') => text_any ta na ia xa bv hxz w' (hE.below hb)
    have c4 := fun w' => back_any ta na ia xa bv hty w'
    have tl2 : er = 0 → na = false → textP ⟨ta, na, ia, xa, bv⟩ = s.data.toList := fun h1 h2 => (tl (by rw [h1]) h2).1
    clear c1 c2 tl
    replace c1' := Lib.hid c1'
    replace c2' := Lib.hid c2'
    replace c3 := Lib.hid c3
    replace c4 := Lib.hid c4
    replace tl2 := Lib.hid tl2
    replace hx := Lib.hid hx
    replace hE := Lib.hid hE
    replace hxz := Lib.hid hxz
    replace hty := Lib.hid hty
    go_enter Tryz.func5, Tryz.ntmps5
    go_upto_region 1 with fail
    go_wp2_with fail
    refine (aw.out W (Below.refl _ _)).mono ?_
    rintro e w1 ⟨rfl, hb1⟩
    replace hb1 := Lib.hid hb1
    go_wp2_with fail
    refine (c1'.out w1 hb1.out).mono ?_
    rintro e w2 ⟨rfl, hb12⟩
    have hb2 := hb1.out.trans (hb12.mono hb1.out.size)
    clear hb12
    obtain ⟨w3, hw3⟩ : ∃ x, x = w2.alloc (.cells #[.int .u8 (ta : Int), .bool na, .int .i64 ia, .string xa, .bool bv] 50) := ⟨_, rfl⟩
    have hN : Has w3 w2.heap.size [.int .u8 (ta : Int), .bool na, .int .i64 ia, .string xa, .bool bv] 50 := by rw [hw3]; exact Has.new w2 _ 50
    have hb3 : Below W.heap.size W w3 := by rw [hw3]; exact hb2.alloc hb2.size _
    replace hb2 := Lib.hid hb2
    replace hw3 := Lib.hid hw3
    replace hN := Lib.hid hN
    replace hb3 := Lib.hid hb3
    go_upto_region 4 with fail
    rw [← hw3.out]
    go_wp2_with fail
    refine (c2'.out w3).mono ?_
    rintro e w4 ⟨rfl, hb34⟩
    obtain ⟨w5, hw5⟩ : ∃ x, x = w4.alloc (.cells #[.int .i64 (ta : Int), .bool na, .int .i64 ia, .string xa, .bool bv] 54) := ⟨_, rfl⟩
    have hM : Has w5 w4.heap.size [.int .i64 (ta : Int), .bool na, .int .i64 ia, .string xa, .bool bv] 54 := by rw [hw5]; exact Has.new w4 _ 54
    have hb35 : Below w3.heap.size w3 w5 := by rw [hw5]; exact hb34.alloc hb34.size _
    have hb5 := hb3.out.trans (hb35.mono hb3.out.size)
    have hN5 := hN.out.only (Only.of_below hb35) (Nat.not_le.2 hN.out.lt)
    replace hb34 := Lib.hid hb34
    replace hb35 := Lib.hid hb35
    replace hb5 := Lib.hid hb5
    replace hw5 := Lib.hid hw5
    replace hM := Lib.hid hM
    replace hN5 := Lib.hid hN5
    go_upto_region 5 with fail
    rw [← hw5.out]
    have m1 : ∀ wx, Below w5.heap.size w5 wx → Has wx w2.heap.size [.int .u8 (ta : Int), .bool na, .int .i64 ia, .string xa, .bool bv] 50 := fun wx hx => hN5.out.only (Only.of_below hx) (Nat.not_le.2 hN5.out.lt)
    have m2 : ∀ wx, Below w5.heap.size w5 wx → Has wx w4.heap.size [.int .i64 (ta : Int), .bool na, .int .i64 ia, .string xa, .bool bv] 54 := fun wx hx => hM.out.only (Only.of_below hx) (Nat.not_le.2 hM.out.lt)
    have n0 := fun wx hx => (m1 wx hx).cell (o := 0) rfl
    have n1 := fun wx hx => (m1 wx hx).cell (o := 1) rfl
    have n2 := fun wx hx => (m1 wx hx).cell (o := 2) rfl
    have n3 := fun wx hx => (m1 wx hx).cell (o := 3) rfl
    have n4 := fun wx hx => (m1 wx hx).cell (o := 4) rfl
    have k0 := fun wx hx => (m2 wx hx).cell (o := 0) rfl
    have k1 := fun wx hx => (m2 wx hx).cell (o := 1) rfl
    have k2 := fun wx hx => (m2 wx hx).cell (o := 2) rfl
    have k3 := fun wx hx => (m2 wx hx).cell (o := 3) rfl
    have k4 := fun wx hx => (m2 wx hx).cell (o := 4) rfl
    have cB : ∀ wx, Below w5.heap.size w5 wx → Calls Tryz.prog 29 #[.agg #[.int .i64 (ta : Int), .bool na, .int .i64 ia, .string xa, .bool bv]] wx (fun e w'' => e = .returned (.agg #[.int .u8 (ta : Int), .bool na, .int .i64 ia, .string xa, .bool bv]) ∧ Below w5.heap.size w5 w'') := fun wx hx => (c4.out wx).mono fun e w'' ⟨he, hb⟩ => ⟨he, hx.trans (hb.mono hx.size)⟩
    have cT : ∀ wx, Below w5.heap.size w5 wx → Calls Tryz.prog 23 #[.agg #[.int .u8 (ta : Int), .bool na, .int .i64 ia, .string xa, .bool bv]] wx (fun e w'' => e = .returned (.string (ba (textP ⟨ta, na, ia, xa, bv⟩))) ∧ Below w5.heap.size w5 w'') := fun wx hx => (c3.out wx (hb5.out.trans (hx.mono hb5.out.size))).mono fun e w'' ⟨he, hb⟩ => ⟨he, hx.trans (hb.mono hx.size)⟩
    replace n0 := Lib.hid n0
    replace n1 := Lib.hid n1
    replace n2 := Lib.hid n2
    replace n3 := Lib.hid n3
    replace n4 := Lib.hid n4
    replace k0 := Lib.hid k0
    replace k1 := Lib.hid k1
    replace k2 := Lib.hid k2
    replace k3 := Lib.hid k3
    replace k4 := Lib.hid k4
    replace cB := Lib.hid cB
    replace cT := Lib.hid cT
    clear m1 m2
    refine wp_region_quietC (C := fun w' => Below w5.heap.size w5 w') (by kernel_rfl) (by kernel_rfl) (below_drew (Below.refl _ _)) ?_
    iterate 2 (go_big_quiet_want; go_big_quiet_op; first | go_big_quiet_on | (refine ⟨_, fun _ _ => rfl, ?_⟩; go_big_quiet_on))
    go_big_quiet_want; go_big_quiet_op
    refine ⟨.bool true, fun wx hx => by simp [go_sem], ?_⟩
    go_big_quiet_on
    go_big_quiet_want; go_big_quiet_op; first | go_big_quiet_on | (refine ⟨_, fun _ _ => rfl, ?_⟩; go_big_quiet_on)
    go_big_quiet_want; go_big_quiet_op
    refine ⟨.agg #[.int .u8 (ta : Int), .bool na, .int .i64 ia, .string xa, .bool bv], fun wx hx => by simp [go_sem, n0.out wx hx, n1.out wx hx, n2.out wx hx, n3.out wx hx, n4.out wx hx], ?_⟩
    go_big_quiet_on
    go_big_quiet_want; go_big_quiet_op
    refine ⟨.agg #[.int .i64 (ta : Int), .bool na, .int .i64 ia, .string xa, .bool bv], fun wx hx => by simp [go_sem, k0.out wx hx, k1.out wx hx, k2.out wx hx, k3.out wx hx, k4.out wx hx], ?_⟩
    go_big_quiet_on
    go_big_quiet_want; go_big_quiet_op
    refine ⟨.agg #[.int .u8 (ta : Int), .bool na, .int .i64 ia, .string xa, .bool bv], fun wx hx => cB.out wx hx, ?_⟩
    go_big_quiet_on
    go_big_quiet_want; go_big_quiet_op
    refine ⟨.bool true, fun wx hx => by simp [go_sem], ?_⟩
    go_big_quiet_on
    iterate 3 (go_big_quiet_want; go_big_quiet_op; first | go_big_quiet_on | (refine ⟨_, fun _ _ => rfl, ?_⟩; go_big_quiet_on))
    by_cases her : er = 0
    · have hI : ((er : Int) != 0) = false := by simp [her]
      have t2 := tl2.out her
      replace her := Lib.hid her
      go_big_quiet_want; go_big_quiet_op
      refine ⟨.bool false, fun wx hx => by simp [go_sem, hI], ?_⟩
      go_big_quiet_on
      iterate 2 (go_big_quiet_want; go_big_quiet_op; first | go_big_quiet_on | (refine ⟨_, fun _ _ => rfl, ?_⟩; go_big_quiet_on))
      go_big_quiet_want; go_big_quiet_op
      refine ⟨.bool na, fun wx hx => by simp [go_sem, n1.out wx hx], ?_⟩
      go_big_quiet_on
      iterate 2 (go_big_quiet_want; go_big_quiet_op; first | go_big_quiet_on | (refine ⟨_, fun _ _ => rfl, ?_⟩; go_big_quiet_on))
      cases na with
      | true =>
        iterate 4 go_big_quiet_skip
        iterate 3 (go_big_quiet_want; go_big_quiet_op; first | go_big_quiet_on | (refine ⟨_, fun _ _ => rfl, ?_⟩; go_big_quiet_on))
        refine wpQuiet_nil ?_
        intro w' hw'
        have hf := hb5.out.trans (Below.mono hw' hb5.out.size)
        replace hf := Lib.hid hf
        clear hw'
        go_wp2_with fail
        go_ret
        exact ⟨rfl, hf.out⟩
      | false =>
        have hts : ba (textP ⟨ta, false, ia, xa, bv⟩) = s := ba_eq (t2 rfl)
        have cT2 := cT.out
        rw [hts] at cT2
        replace cT2 := Lib.hid cT2
        replace hts := Lib.hid hts
        clear cT t2
        go_big_quiet_want; go_big_quiet_op
        refine ⟨.agg #[.int .u8 (ta : Int), .bool false, .int .i64 ia, .string xa, .bool bv], fun wx hx => by simp [go_sem, n0.out wx hx, n1.out wx hx, n2.out wx hx, n3.out wx hx, n4.out wx hx], ?_⟩
        go_big_quiet_on
        go_big_quiet_want; go_big_quiet_op
        refine ⟨.string s, fun wx hx => cT2.out wx hx, ?_⟩
        go_big_quiet_on
        go_big_quiet_want; go_big_quiet_op; first | go_big_quiet_on | (refine ⟨_, fun _ _ => rfl, ?_⟩; go_big_quiet_on)
        go_big_quiet_want; go_big_quiet_op
        refine ⟨.bool true, fun wx hx => by simp [go_sem], ?_⟩
        go_big_quiet_on
        iterate 3 (go_big_quiet_want; go_big_quiet_op; first | go_big_quiet_on | (refine ⟨_, fun _ _ => rfl, ?_⟩; go_big_quiet_on))
        refine wpQuiet_nil ?_
        intro w' hw'
        have hf := hb5.out.trans (Below.mono hw' hb5.out.size)
        replace hf := Lib.hid hf
        clear hw'
        go_wp2_with fail
        go_ret
        exact ⟨rfl, hf.out⟩
    · have hI : ((er : Int) != 0) = true := by simp [her]
      replace her := Lib.hid her
      go_big_quiet_want; go_big_quiet_op
      refine ⟨.bool true, fun wx hx => by simp [go_sem, hI], ?_⟩
      go_big_quiet_on
      go_big_quiet_want; go_big_quiet_op; first | go_big_quiet_on | (refine ⟨_, fun _ _ => rfl, ?_⟩; go_big_quiet_on)
      iterate 2 go_big_quiet_skip
      iterate 2 (go_big_quiet_want; go_big_quiet_op; first | go_big_quiet_on | (refine ⟨_, fun _ _ => rfl, ?_⟩; go_big_quiet_on))
      iterate 4 go_big_quiet_skip
      iterate 3 (go_big_quiet_want; go_big_quiet_op; first | go_big_quiet_on | (refine ⟨_, fun _ _ => rfl, ?_⟩; go_big_quiet_on))
      refine wpQuiet_nil ?_
      intro w' hw'
      have hf := hb5.out.trans (Below.mono hw' hb5.out.size)
      replace hf := Lib.hid hf
      clear hw'
      go_wp2_with fail
      go_ret
      exact ⟨rfl, hf.out⟩
end Go.Proofs.YtpjbcadelmjmfaaGreatDoor
