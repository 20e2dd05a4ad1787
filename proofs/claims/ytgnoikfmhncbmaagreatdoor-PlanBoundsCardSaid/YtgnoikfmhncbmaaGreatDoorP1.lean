/- Walks: the law PlanBounds. -/
import Derived.Test.YtgnoikfmhncbmaaGreatDoorU11
import Derived.Test.YtgnoikfmhncbmaaGreatDoorB12
import Derived.Test.YtgnoikfmhncbmaaGreatDoorB13
import Derived.Test.YtgnoikfmhncbmaaGreatDoorB15
set_option linter.unusedVariables false
set_option linter.unusedSimpArgs false
namespace Go.Proofs.YtgnoikfmhncbmaaGreatDoor
open Go.RowKit Go.Lib
theorem size_same : ∀ {t t' : AT}, t.same t' → t.size = t'.size
  | .nil, .nil, _ => rfl
  | .nil, .node .., h => h.elim
  | .node .., .nil, h => h.elim
  | .node _ _ _ _ l r, .node _ _ _ _ l' r', h => by
    obtain ⟨_, _, _, h1, h2⟩ := h
    simp only [AT.size, size_same h1, size_same h2]
set_option maxHeartbeats 8000000 in
set_option maxRecDepth 100000 in
theorem bounds_walk (l : List Nd) (hl : ∀ x ∈ l, x.Fit) (a0 : Option Addr) (cap0 col : Nat) (hc : col < 256) (W : World) (hE : Env W) (rd : Rd W (.slice a0 l.length cap0) l.length (ndCells l)) :
    Calls Tryz.prog 3 #[.slice a0 l.length cap0, .int .u8 (col : Int)] W (RPost W (.bool true)) := by
  generalize hpost : RPost W (.bool true) = post
  have hfin : ∀ w', Below W.heap.size W w' → post (.returned (.bool true)) w' := fun w' hb => by rw [← hpost]; exact ⟨rfl, hb⟩
  replace hpost := Lib.hid hpost
  replace hfin := Lib.hid hfin
  have haw := Lib.hid (awake_any W hE)
  obtain ⟨n, hn⟩ : ∃ n, l.length = n := ⟨_, rfl⟩
  have htr : ∀ wx, Below W.heap.size W wx → Calls Tryz.prog 9 #[.slice a0 n cap0, .int .i64 0] wx (TreP (treeO l 24 0) wx) := fun wx hb => by rw [← hn]; exact tree_any l hl 24 0 _ wx (rd.kept hb) (by omega) (by omega)
  have hcl := Lib.hid (fun wx => column_any col hc wx)
  obtain ⟨cn, hcn⟩ : ∃ cn, colN col = cn := ⟨_, rfl⟩
  rw [hcn] at hcl
  rw [hn]
  replace htr := Lib.hid htr
  replace hn := Lib.hid hn
  replace hcn := Lib.hid hcn
  clear rd
  go_enter Tryz.func3, Tryz.ntmps3
  go_wp2_with fail
  refine haw.out.mono ?_
  rintro e w1 ⟨rfl, hb1⟩
  have htr1 := Lib.hid (htr.out w1 hb1)
  replace hb1 := Lib.hid hb1
  go_wp2_with fail
  refine htr1.out.mono ?_
  rintro e w2 ⟨t, rfl, hT, hb2⟩
  have hbB := hb1.out.trans (hb2.mono hb1.out.size)
  obtain ⟨pt, hpt⟩ := AT.isP t
  rw [hpt]
  have hfit : t.Fit := fit_same hT.sm (treeO_fit l hl 24 0)
  have hsz : t.size ≤ 20000000 := by rw [← size_same hT.sm]; have := treeO_size l 24 0; omega
  clear hb2
  replace hbB := Lib.hid hbB
  replace hT := Lib.hid hT
  replace hpt := Lib.hid hpt
  replace hfit := Lib.hid hfit
  replace hsz := Lib.hid hsz
  have hc2 := Lib.hid (hcl.out w2)
  go_wp2_with fail
  refine hc2.out.mono ?_
  rintro e w3 ⟨rfl, hb3⟩
  have hb03 := hbB.out.trans (hb3.mono hbB.out.size)
  have hT3 := hT.out.below hb3
  have hbo := bounds_any t cn w3 hT3.at' hT3.nd hfit.out hsz.out (hE.below hb03)
  rw [hpt.out] at hbo
  obtain ⟨⟨⟨ta, na, ia, xa, ba1⟩, ⟨tb, nb, ib, xb, bb⟩, ex⟩, hB⟩ : ∃ s, bndP cn t = s := ⟨_, rfl⟩
  have hBd := bndP.bd cn hfit.out
  rw [hB] at hbo hBd
  have hta : ta < 256 := hBd.1.2.2
  have htb : tb < 256 := hBd.2.2.2
  unfold bndV at hbo
  dsimp only [RV.val] at hbo
  clear hT hb3 hBd hbB
  replace hbo := Lib.hid hbo
  replace hB := Lib.hid hB
  replace hb03 := Lib.hid hb03
  replace hT3 := Lib.hid hT3
  go_wp2_with fail
  refine hbo.out.mono ?_
  rintro e w4 ⟨rfl, hb4⟩
  have hb04 := hb03.out.trans (hb4.mono hb03.out.size)
  have hT4 := hT3.out.below hb4
  clear hb4 hb03 hT3
  replace hb04 := Lib.hid hb04
  replace hT4 := Lib.hid hT4
  go_upto_region 5 with fail
  obtain ⟨W5, hW5⟩ : ∃ W5, W5 = (w4.alloc (.cells #[.int .u8 (ta : Int), .bool na, .int .i64 ia, .string xa, .bool ba1] 28)).alloc (.cells #[.int .u8 (tb : Int), .bool nb, .int .i64 ib, .string xb, .bool bb] 28) := ⟨_, rfl⟩
  have hB5 : Below w4.heap.size w4 W5 := by rw [hW5]; exact ((Below.refl _ _).alloc (Nat.le_refl _) _).alloc (by simp) _
  have HL : Has W5 w4.heap.size [.int .u8 (ta : Int), .bool na, .int .i64 ia, .string xa, .bool ba1] 28 := by rw [hW5]; exact (Has.new w4 _ _).alloc _
  have HH : Has W5 (w4.heap.size + 1) [.int .u8 (tb : Int), .bool nb, .int .i64 ib, .string xb, .bool bb] 28 := by rw [hW5]; have h := Has.new (w4.alloc (.cells #[.int .u8 (ta : Int), .bool na, .int .i64 ia, .string xa, .bool ba1] 28)) [.int .u8 (tb : Int), .bool nb, .int .i64 ib, .string xb, .bool bb] 28; simp only [World.size_alloc] at h; exact h
  have hb05 := hb04.out.trans (hB5.mono hb04.out.size)
  have hT5 := hT4.out.below hB5
  rw [← hW5]
  clear hW5 hB5 hb04 hT4
  have hto := told_any t hfit.out W5 hT5.at'
  rw [hpt.out] at hto
  clear hT5
  replace hto := Lib.hid hto
  replace HL := Lib.hid HL
  replace HH := Lib.hid HH
  replace hb05 := Lib.hid hb05
  go_wp2_with fail
  refine hto.out.mono ?_
  rintro e w6 ⟨v, rfl, hLk, hb6⟩
  obtain ⟨u, rfl, hR, hsm, _⟩ := hLk
  obtain ⟨pu, hpu⟩ := AT.isP u
  rw [hpu]
  have hb06 := hb05.out.trans (hb6.mono hb05.out.size)
  have HL6 := HL.out.only (Only.of_below hb6) (Nat.not_le.2 HL.out.lt)
  have HH6 := HH.out.only (Only.of_below hb6) (Nat.not_le.2 HH.out.lt)
  clear hb6 HL HH hb05
  replace hR := Lib.hid hR
  replace hsm := Lib.hid hsm
  replace hpu := Lib.hid hpu
  replace hb06 := Lib.hid hb06
  replace HL6 := Lib.hid HL6
  replace HH6 := Lib.hid HH6
  have hc6 := Lib.hid (hcl.out w6)
  go_wp2_with fail
  refine hc6.out.mono ?_
  rintro e w7 ⟨rfl, hb7⟩
  have hR7 := hR.out.below hb7
  have hb07 := hb06.out.trans (hb7.mono hb06.out.size)
  have HL7 := HL6.out.only (Only.of_below hb7) (Nat.not_le.2 HL6.out.lt)
  have HH7 := HH6.out.only (Only.of_below hb7) (Nat.not_le.2 HH6.out.lt)
  clear hb7 HL6 HH6 hb06 hR
  have hrb := rbounds_any cn u (fit_same hsm.out hfit.out) w7 hR7
  rw [← bnd_same cn hsm.out, hB.out, hpu.out] at hrb
  unfold bndRV at hrb
  dsimp only [RV.rval] at hrb
  clear hR7
  replace hrb := Lib.hid hrb
  replace hb07 := Lib.hid hb07
  replace HL7 := Lib.hid HL7
  replace HH7 := Lib.hid HH7
  go_wp2_with fail
  refine hrb.out.mono ?_
  rintro e w8 ⟨rfl, hb8⟩
  have hb08 := hb07.out.trans (hb8.mono hb07.out.size)
  have HL8 := HL7.out.only (Only.of_below hb8) (Nat.not_le.2 HL7.out.lt)
  have HH8 := HH7.out.only (Only.of_below hb8) (Nat.not_le.2 HH7.out.lt)
  clear hb8 HL7 HH7 hb07
  replace hb08 := Lib.hid hb08
  replace HL8 := Lib.hid HL8
  replace HH8 := Lib.hid HH8
  go_upto_region 6 with fail
  obtain ⟨W9, hW9⟩ : ∃ W9, W9 = (w8.alloc (.cells #[.int .i64 (ta : Int), .bool na, .int .i64 ia, .string xa, .bool ba1] 33)).alloc (.cells #[.int .i64 (tb : Int), .bool nb, .int .i64 ib, .string xb, .bool bb] 33) := ⟨_, rfl⟩
  have HL9 : Has W9 w4.heap.size [.int .u8 (ta : Int), .bool na, .int .i64 ia, .string xa, .bool ba1] 28 := by rw [hW9]; exact (HL8.out.alloc _).alloc _
  have HH9 : Has W9 (w4.heap.size + 1) [.int .u8 (tb : Int), .bool nb, .int .i64 ib, .string xb, .bool bb] 28 := by rw [hW9]; exact (HH8.out.alloc _).alloc _
  have HP : Has W9 w8.heap.size [.int .i64 (ta : Int), .bool na, .int .i64 ia, .string xa, .bool ba1] 33 := by rw [hW9]; exact (Has.new w8 _ _).alloc _
  have HQ : Has W9 (w8.heap.size + 1) [.int .i64 (tb : Int), .bool nb, .int .i64 ib, .string xb, .bool bb] 33 := by rw [hW9]; have h := Has.new (w8.alloc (.cells #[.int .i64 (ta : Int), .bool na, .int .i64 ia, .string xa, .bool ba1] 33)) [.int .i64 (tb : Int), .bool nb, .int .i64 ib, .string xb, .bool bb] 33; simp only [World.size_alloc] at h; exact h
  have hb09 : Below W.heap.size W W9 := by rw [hW9]; exact (hb08.out.alloc hb08.out.size _).alloc (by have := hb08.out.size; simp; omega) _
  rw [← hW9]
  clear hW9 HL8 HH8 hb08
  have kL := fun wx (hb : Below W9.heap.size W9 wx) => HL9.only (Only.of_below hb) (Nat.not_le.2 HL9.lt)
  have kH := fun wx (hb : Below W9.heap.size W9 wx) => HH9.only (Only.of_below hb) (Nat.not_le.2 HH9.lt)
  have kP := fun wx (hb : Below W9.heap.size W9 wx) => HP.only (Only.of_below hb) (Nat.not_le.2 HP.lt)
  have kQ := fun wx (hb : Below W9.heap.size W9 wx) => HQ.only (Only.of_below hb) (Nat.not_le.2 HQ.lt)
  have cA : ∀ wx, Below W9.heap.size W9 wx → Calls Tryz.prog 14 #[.agg #[.int .u8 (ta : Int), .bool na, .int .i64 ia, .string xa, .bool ba1]] wx (fun e w2 => e = .returned (.agg #[.int .i64 (ta : Int), .bool na, .int .i64 ia, .string xa, .bool ba1]) ∧ Below W9.heap.size W9 w2) := fun wx hx => (value_any ta na ia xa ba1 hta wx).mono fun e w2 ⟨he, hb⟩ => ⟨he, hx.trans (hb.mono hx.size)⟩
  have cB : ∀ wx, Below W9.heap.size W9 wx → Calls Tryz.prog 14 #[.agg #[.int .u8 (tb : Int), .bool nb, .int .i64 ib, .string xb, .bool bb]] wx (fun e w2 => e = .returned (.agg #[.int .i64 (tb : Int), .bool nb, .int .i64 ib, .string xb, .bool bb]) ∧ Below W9.heap.size W9 w2) := fun wx hx => (value_any tb nb ib xb bb htb wx).mono fun e w2 ⟨he, hb⟩ => ⟨he, hx.trans (hb.mono hx.size)⟩
  replace kL := Lib.hid kL
  replace kH := Lib.hid kH
  replace kP := Lib.hid kP
  replace kQ := Lib.hid kQ
  replace cA := Lib.hid cA
  replace cB := Lib.hid cB
  replace hb09 := Lib.hid hb09
  clear HL9 HH9 HP HQ
  refine wp_region_quietC (C := fun wx => Below W9.heap.size W9 wx) (by kernel_rfl) (by kernel_rfl) (below_drew (Below.refl _ _)) ?_
  go_big_quiet_want; go_big_quiet_op
  refine ⟨.agg #[.int .u8 (ta : Int), .bool na, .int .i64 ia, .string xa, .bool ba1], fun wx hx => by simp [go_sem, (kL.out wx hx).cell (o := 0) rfl, (kL.out wx hx).cell (o := 1) rfl, (kL.out wx hx).cell (o := 2) rfl, (kL.out wx hx).cell (o := 3) rfl, (kL.out wx hx).cell (o := 4) rfl], ?_⟩
  go_big_quiet_on
  go_big_quiet_want; go_big_quiet_op
  refine ⟨.agg #[.int .i64 (ta : Int), .bool na, .int .i64 ia, .string xa, .bool ba1], fun wx hx => cA.out wx hx, ?_⟩
  go_big_quiet_on
  go_big_quiet_want; go_big_quiet_op
  refine ⟨.agg #[.int .i64 (ta : Int), .bool na, .int .i64 ia, .string xa, .bool ba1], fun wx hx => by simp [go_sem, (kP.out wx hx).cell (o := 0) rfl, (kP.out wx hx).cell (o := 1) rfl, (kP.out wx hx).cell (o := 2) rfl, (kP.out wx hx).cell (o := 3) rfl, (kP.out wx hx).cell (o := 4) rfl], ?_⟩
  go_big_quiet_on
  go_big_quiet_want; go_big_quiet_op
  refine ⟨.bool true, fun wx hx => by simp [go_sem], ?_⟩
  go_big_quiet_on
  iterate 1 (go_big_quiet_want; go_big_quiet_op; first | go_big_quiet_on | (refine ⟨_, fun _ _ => rfl, ?_⟩; go_big_quiet_on))
  go_big_quiet_want; go_big_quiet_op
  refine ⟨.agg #[.int .u8 (tb : Int), .bool nb, .int .i64 ib, .string xb, .bool bb], fun wx hx => by simp [go_sem, (kH.out wx hx).cell (o := 0) rfl, (kH.out wx hx).cell (o := 1) rfl, (kH.out wx hx).cell (o := 2) rfl, (kH.out wx hx).cell (o := 3) rfl, (kH.out wx hx).cell (o := 4) rfl], ?_⟩
  go_big_quiet_on
  go_big_quiet_want; go_big_quiet_op
  refine ⟨.agg #[.int .i64 (tb : Int), .bool nb, .int .i64 ib, .string xb, .bool bb], fun wx hx => cB.out wx hx, ?_⟩
  go_big_quiet_on
  go_big_quiet_want; go_big_quiet_op
  refine ⟨.agg #[.int .i64 (tb : Int), .bool nb, .int .i64 ib, .string xb, .bool bb], fun wx hx => by simp [go_sem, (kQ.out wx hx).cell (o := 0) rfl, (kQ.out wx hx).cell (o := 1) rfl, (kQ.out wx hx).cell (o := 2) rfl, (kQ.out wx hx).cell (o := 3) rfl, (kQ.out wx hx).cell (o := 4) rfl], ?_⟩
  go_big_quiet_on
  go_big_quiet_want; go_big_quiet_op
  refine ⟨.bool true, fun wx hx => by simp [go_sem], ?_⟩
  go_big_quiet_on
  iterate 4 (go_big_quiet_want; go_big_quiet_op; first | go_big_quiet_on | (refine ⟨_, fun _ _ => rfl, ?_⟩; go_big_quiet_on))
  go_big_quiet_want; go_big_quiet_op
  refine ⟨.bool true, fun wx hx => by simp [go_sem], ?_⟩
  go_big_quiet_on
  iterate 2 (go_big_quiet_want; go_big_quiet_op; first | go_big_quiet_on | (refine ⟨_, fun _ _ => rfl, ?_⟩; go_big_quiet_on))
  refine wpQuiet_nil ?_
  intro w' hw'
  have hfin2 := Lib.hid (hfin.out w' (hb09.out.trans (hw'.mono hb09.out.size)))
  clear hw'
  go_wp2_with fail
  exact hfin2.out
end Go.Proofs.YtgnoikfmhncbmaaGreatDoor
