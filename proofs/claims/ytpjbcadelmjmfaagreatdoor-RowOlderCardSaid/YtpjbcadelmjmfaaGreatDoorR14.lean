/- The walk of quoted. -/
import Derived.Test.YtpjbcadelmjmfaaGreatDoorR3
namespace Go.Proofs.YtpjbcadelmjmfaaGreatDoor
open Go.RowKit Go.Lib

def LitPost (w : World) (x : RV × Nat) (e : Ending) (w' : World) : Prop := e = .returned (.tuple #[x.1.val, .int .i64 (x.2 : Nat)]) ∧ Below w.heap.size w w'
theorem bneq (a b : ByteArray) : (a.toList != b.toList) = decide (a.data.toList ≠ b.data.toList) := by
  rw [ByteArray.toList_eq, ByteArray.toList_eq, Bool.eq_iff_iff]; simp
theorem mk_data (l : List UInt8) : (⟨l.toArray⟩ : ByteArray).data.toList = l := rfl
theorem mk_size (l : List UInt8) : (⟨l.toArray⟩ : ByteArray).size = l.length := by show l.toArray.size = _; simp
set_option maxHeartbeats 8000000 in
set_option maxRecDepth 100000 in
theorem quoted_any (s : ByteArray) (hs : s.size ≤ 1000000) (w : World) (hE : Env w) :
    Calls Tryz.prog 46 #[.string s] w (LitPost w (quotP s.data.toList)) := by
  obtain ⟨W, hW⟩ : ∃ W, W = w.alloc (.cells #[.int .u8 0, .bool false, .int .i64 0, .string ⟨#[]⟩, .bool false] 50) := ⟨_, rfl⟩
  have hZ0 : Has W w.heap.size [.int .u8 0, .bool false, .int .i64 0, .string ⟨#[]⟩, .bool false] 50 := by rw [hW]; exact Has.new w _ _
  have hBW : Below w.heap.size w W := by rw [hW]; exact (Below.refl _ _).alloc (Nat.le_refl _) _
  have hEW := hE.below hBW
  obtain ⟨q, hq⟩ : ∃ q, quotP s.data.toList = q := ⟨_, rfl⟩
  have hqd : quotP s.data.toList = match unq s.data.toList with
    | none => (badV, 11)
    | some t => if validD t = false then (badV, 11) else if 200 < t.length then (badV, 9) else (⟨2, false, 0, ⟨t.toArray⟩, false⟩, 0) := rfl
  rw [hq] at hqd ⊢
  obtain ⟨t, ht⟩ : ∃ t, t = rep2 s.data.toList := ⟨_, rfl⟩
  have htl := rep2_len s.data.toList
  have hss : s.data.toList.length = s.size := by simp
  rw [← ht, hss] at htl
  have hdl := dbl_len t
  have hcnt := count_le s.data.toList [39, 39]
  have hcnt2 := count_le t [39]
  have hr1 : ∀ w', Below W.heap.size W w' → Calls Tryz.prog 44 #[.string s, .string ⟨#[39, 39]⟩, .string ⟨#[39]⟩] w' fun e w'' => e = .returned (.string ⟨t.toArray⟩) ∧ Below w'.heap.size w' w'' := by
    intro w' hb
    have h := replall_any s ⟨#[39, 39]⟩ ⟨#[39]⟩ w' (hEW.below hb) (by omega) (by decide) (by
      show s.size + count s.data.toList [39, 39] * 1 ≤ _
      omega)
    have e : replaceAll s.data.toList [39, 39] [39] = t := by rw [replaceAll_rep2, ht]
    rw [← e]
    exact h
  obtain ⟨u, hu⟩ : ∃ u, u = dbl t := ⟨_, rfl⟩
  have hr2 : ∀ w', Below W.heap.size W w' → Calls Tryz.prog 44 #[.string ⟨t.toArray⟩, .string ⟨#[39]⟩, .string ⟨#[39, 39]⟩] w' fun e w'' => e = .returned (.string ⟨u.toArray⟩) ∧ Below w'.heap.size w' w'' := by
    intro w' hb
    have h := replall_any ⟨t.toArray⟩ ⟨#[39]⟩ ⟨#[39, 39]⟩ w' (hEW.below hb) (by rw [mk_size]; omega) (by decide) (by
      rw [mk_size]
      show t.length + count t [39] * 2 ≤ _
      omega)
    have e : replaceAll t [39] [39, 39] = u := by rw [replaceAll_dbl, hu]
    rw [← e]
    exact h
  have hvs : ∀ w', Below W.heap.size W w' → Calls Tryz.prog 66 #[.string ⟨t.toArray⟩] w' fun e w'' => e = .returned (.bool (validD t)) ∧ Below w'.heap.size w' w'' := fun w' hb => validstr_any ⟨t.toArray⟩ w' (by rw [mk_size]; omega) (hEW.below hb)
  obtain ⟨c, hc⟩ : ∃ c : Bool, c = decide (u ≠ s.data.toList) := ⟨_, rfl⟩
  have hcI : ((⟨u.toArray⟩ : ByteArray).toList == s.toList) = !c := by
    rw [hc, ByteArray.toList_eq, ByteArray.toList_eq, mk_data, Bool.eq_iff_iff]
    simp
  obtain ⟨T, hT⟩ : ∃ T : ByteArray, T = ⟨t.toArray⟩ := ⟨_, rfl⟩
  obtain ⟨U, hU⟩ : ∃ U : ByteArray, U = ⟨u.toArray⟩ := ⟨_, rfl⟩
  have hTs : T.size = t.length := by rw [hT, mk_size]
  rw [← hT] at hr1 hr2 hvs
  rw [← hU] at hr2 hcI
  obtain ⟨vd, hvd⟩ : ∃ v, v = validD t := ⟨_, rfl⟩
  rw [← hvd] at hvs
  have hfin : ∀ (x : RV × Nat), q = x → ∀ w', Below w.heap.size w w' → LitPost w q (.returned (.tuple #[x.1.val, .int .i64 (x.2 : Nat)])) w' := by
    intro x hx w' hb
    rw [hx]
    exact ⟨rfl, hb⟩
  generalize LitPost w q = post at *
  have hcases : (c = true ∧ q = (badV, 11)) ∨ (c = false ∧ vd = false ∧ q = (badV, 11)) ∨ (c = false ∧ vd = true ∧ 200 < T.size ∧ q = (badV, 9)) ∨ (c = false ∧ vd = true ∧ ¬ 200 < T.size ∧ q = (⟨2, false, 0, T, false⟩, 0)) := by
    cases hun : unq s.data.toList with
    | none =>
      have hne := unq_none _ hun
      rw [hun] at hqd
      refine .inl ⟨?_, hqd⟩
      rw [hc, hu, ht]
      exact decide_eq_true hne
    | some x =>
      obtain ⟨h1, h2⟩ := unq_some _ _ hun
      rw [hun] at hqd
      simp only at hqd
      have hx : x = t := by rw [ht, h2]
      subst hx
      have hcf : c = false := by rw [hc, hu]; exact decide_eq_false (by simp [h1])
      rw [← hvd] at hqd
      cases vd with
      | false => exact .inr (.inl ⟨hcf, rfl, by rw [hqd]; simp⟩)
      | true =>
        rw [hTs]
        by_cases h2 : 200 < x.length
        · exact .inr (.inr (.inl ⟨hcf, rfl, h2, by rw [hqd]; simp [h2]⟩))
        · exact .inr (.inr (.inr ⟨hcf, rfl, h2, by rw [hqd, hT]; simp [h2]⟩))
  replace hc := Lib.hid hc
  replace hq := Lib.hid hq
  replace hqd := Lib.hid hqd
  replace ht := Lib.hid ht
  replace hu := Lib.hid hu
  replace hT := Lib.hid hT
  replace hU := Lib.hid hU
  replace hvd := Lib.hid hvd
  replace hTs := Lib.hid hTs
  replace hss := Lib.hid hss
  replace hW := Lib.hid hW
  replace hr1 := Lib.hid hr1
  replace hr2 := Lib.hid hr2
  replace hvs := Lib.hid hvs
  go_enter Tryz.func46, Tryz.ntmps46
  go_upto_region 1 with fail
  rw [← hW.out]
  go_wp2_with fail
  refine (hr1.out _ (Below.refl _ _)).mono ?_
  rintro e w1 ⟨rfl, hb1⟩
  go_wp2_with fail
  refine (hr2.out _ hb1).mono ?_
  rintro e w2 ⟨rfl, hb12⟩
  have hb2 := hb1.trans (hb12.mono hb1.size)
  clear hb1 hb12 hr1 hr2
  rcases hcases with ⟨rfl, hx⟩ | ⟨rfl, rfl, hx⟩ | ⟨rfl, rfl, hl, hx⟩ | ⟨rfl, rfl, hl, hx⟩
  · have hZ := hZ0.only (Only.of_below hb2) (Nat.not_le.2 hZ0.lt)
    have hB := hBW.trans (hb2.mono hBW.size)
    replace hfin := hfin _ hx
    replace hx := Lib.hid hx
    have z0 := hZ.free 0
    have zc0 := hZ.cell (o := 0) rfl
    have z1 := hZ.free 1
    have zc1 := hZ.cell (o := 1) rfl
    have z2 := hZ.free 2
    have zc2 := hZ.cell (o := 2) rfl
    have z3 := hZ.free 3
    have zc3 := hZ.cell (o := 3) rfl
    have z4 := hZ.free 4
    have zc4 := hZ.cell (o := 4) rfl
    have hZ5 := (((((hZ.set 0 (.int .u8 0)).set 1 (.bool false)).set 2 (.int .i64 0)).set 3 (.string ⟨#[]⟩)).set 4 (.bool false))
    have y0 := hZ5.cell (o := 0) rfl
    have y1 := hZ5.cell (o := 1) rfl
    have y2 := hZ5.cell (o := 2) rfl
    have y3 := hZ5.cell (o := 3) rfl
    have y4 := hZ5.cell (o := 4) rfl
    have hF := hfin _ (((((hB.setCell (p := ⟨w.heap.size, 0, none⟩) (Nat.le_refl _) (.int .u8 0)).setCell (p := ⟨w.heap.size, 1, none⟩) (Nat.le_refl _) (.bool false)).setCell (p := ⟨w.heap.size, 2, none⟩) (Nat.le_refl _) (.int .i64 0)).setCell (p := ⟨w.heap.size, 3, none⟩) (Nat.le_refl _) (.string ⟨#[]⟩)).setCell (p := ⟨w.heap.size, 4, none⟩) (Nat.le_refl _) (.bool false))
    replace hF := Lib.hid hF
    clear hZ hB hBW hEW hE hZ0 hb2 hvs hZ5 hfin
    go_wp2_with fail
    refine bodyPost_ret (v := .tuple #[.agg #[.int .u8 0, .bool false, .int .i64 0, .string ⟨#[]⟩, .bool false], .int .i64 11]) (by simp [results, Tryz.results46, go_sem, y0, y1, y2, y3, y4]) rfl ?_
    exact hF.out
  · go_wp2_with fail
    refine (hvs.out _ hb2).mono ?_
    rintro e w3 ⟨rfl, hb23⟩
    have hb3 := hb2.trans (hb23.mono hb2.size)
    clear hb23 hvs hb2
    have hZ := hZ0.only (Only.of_below hb3) (Nat.not_le.2 hZ0.lt)
    have hB := hBW.trans (hb3.mono hBW.size)
    replace hfin := hfin _ hx
    replace hx := Lib.hid hx
    have z0 := hZ.free 0
    have zc0 := hZ.cell (o := 0) rfl
    have z1 := hZ.free 1
    have zc1 := hZ.cell (o := 1) rfl
    have z2 := hZ.free 2
    have zc2 := hZ.cell (o := 2) rfl
    have z3 := hZ.free 3
    have zc3 := hZ.cell (o := 3) rfl
    have z4 := hZ.free 4
    have zc4 := hZ.cell (o := 4) rfl
    have hZ5 := (((((hZ.set 0 (.int .u8 0)).set 1 (.bool false)).set 2 (.int .i64 0)).set 3 (.string ⟨#[]⟩)).set 4 (.bool false))
    have y0 := hZ5.cell (o := 0) rfl
    have y1 := hZ5.cell (o := 1) rfl
    have y2 := hZ5.cell (o := 2) rfl
    have y3 := hZ5.cell (o := 3) rfl
    have y4 := hZ5.cell (o := 4) rfl
    have hF := hfin _ (((((hB.setCell (p := ⟨w.heap.size, 0, none⟩) (Nat.le_refl _) (.int .u8 0)).setCell (p := ⟨w.heap.size, 1, none⟩) (Nat.le_refl _) (.bool false)).setCell (p := ⟨w.heap.size, 2, none⟩) (Nat.le_refl _) (.int .i64 0)).setCell (p := ⟨w.heap.size, 3, none⟩) (Nat.le_refl _) (.string ⟨#[]⟩)).setCell (p := ⟨w.heap.size, 4, none⟩) (Nat.le_refl _) (.bool false))
    replace hF := Lib.hid hF
    clear hZ hB hBW hEW hE hZ0 hb3 hZ5 hfin
    go_wp2_with fail
    refine bodyPost_ret (v := .tuple #[.agg #[.int .u8 0, .bool false, .int .i64 0, .string ⟨#[]⟩, .bool false], .int .i64 11]) (by simp [results, Tryz.results46, go_sem, y0, y1, y2, y3, y4]) rfl ?_
    exact hF.out
  · go_wp2_with fail
    refine (hvs.out _ hb2).mono ?_
    rintro e w3 ⟨rfl, hb23⟩
    have hb3 := hb2.trans (hb23.mono hb2.size)
    clear hb23 hvs hb2
    have d1 : decide ((200 : Int) < (T.size : Int)) = true := decide_eq_true (by omega)
    have d2 : decide (200 < T.size) = true := decide_eq_true hl
    have hZ := hZ0.only (Only.of_below hb3) (Nat.not_le.2 hZ0.lt)
    have hB := hBW.trans (hb3.mono hBW.size)
    replace hfin := hfin _ hx
    replace hx := Lib.hid hx
    have z0 := hZ.free 0
    have zc0 := hZ.cell (o := 0) rfl
    have z1 := hZ.free 1
    have zc1 := hZ.cell (o := 1) rfl
    have z2 := hZ.free 2
    have zc2 := hZ.cell (o := 2) rfl
    have z3 := hZ.free 3
    have zc3 := hZ.cell (o := 3) rfl
    have z4 := hZ.free 4
    have zc4 := hZ.cell (o := 4) rfl
    have hZ5 := (((((hZ.set 0 (.int .u8 0)).set 1 (.bool false)).set 2 (.int .i64 0)).set 3 (.string ⟨#[]⟩)).set 4 (.bool false))
    have y0 := hZ5.cell (o := 0) rfl
    have y1 := hZ5.cell (o := 1) rfl
    have y2 := hZ5.cell (o := 2) rfl
    have y3 := hZ5.cell (o := 3) rfl
    have y4 := hZ5.cell (o := 4) rfl
    have hF := hfin _ (((((hB.setCell (p := ⟨w.heap.size, 0, none⟩) (Nat.le_refl _) (.int .u8 0)).setCell (p := ⟨w.heap.size, 1, none⟩) (Nat.le_refl _) (.bool false)).setCell (p := ⟨w.heap.size, 2, none⟩) (Nat.le_refl _) (.int .i64 0)).setCell (p := ⟨w.heap.size, 3, none⟩) (Nat.le_refl _) (.string ⟨#[]⟩)).setCell (p := ⟨w.heap.size, 4, none⟩) (Nat.le_refl _) (.bool false))
    replace hF := Lib.hid hF
    clear hZ hB hBW hEW hE hZ0 hb3 hl hZ5 hfin
    go_wp2_with fail
    refine bodyPost_ret (v := .tuple #[.agg #[.int .u8 0, .bool false, .int .i64 0, .string ⟨#[]⟩, .bool false], .int .i64 9]) (by simp [results, Tryz.results46, go_sem, y0, y1, y2, y3, y4]) rfl ?_
    exact hF.out
  · go_wp2_with fail
    refine (hvs.out _ hb2).mono ?_
    rintro e w3 ⟨rfl, hb23⟩
    have hb3 := hb2.trans (hb23.mono hb2.size)
    clear hb23 hvs hb2
    have d1 : decide ((200 : Int) < (T.size : Int)) = false := decide_eq_false (by omega)
    have d2 : decide (200 < T.size) = false := decide_eq_false hl
    have hZ := hZ0.only (Only.of_below hb3) (Nat.not_le.2 hZ0.lt)
    have hB := hBW.trans (hb3.mono hBW.size)
    replace hfin := hfin _ hx
    replace hx := Lib.hid hx
    have z0 := hZ.free 0
    have zc0 := hZ.cell (o := 0) rfl
    have z1 := hZ.free 1
    have zc1 := hZ.cell (o := 1) rfl
    have z2 := hZ.free 2
    have zc2 := hZ.cell (o := 2) rfl
    have z3 := hZ.free 3
    have zc3 := hZ.cell (o := 3) rfl
    have z4 := hZ.free 4
    have zc4 := hZ.cell (o := 4) rfl
    have hZ5 := (((((hZ.set 0 (.int .u8 2)).set 1 (.bool false)).set 2 (.int .i64 0)).set 3 (.string T)).set 4 (.bool false))
    have y0 := hZ5.cell (o := 0) rfl
    have y1 := hZ5.cell (o := 1) rfl
    have y2 := hZ5.cell (o := 2) rfl
    have y3 := hZ5.cell (o := 3) rfl
    have y4 := hZ5.cell (o := 4) rfl
    have hF := hfin _ (((((hB.setCell (p := ⟨w.heap.size, 0, none⟩) (Nat.le_refl _) (.int .u8 2)).setCell (p := ⟨w.heap.size, 1, none⟩) (Nat.le_refl _) (.bool false)).setCell (p := ⟨w.heap.size, 2, none⟩) (Nat.le_refl _) (.int .i64 0)).setCell (p := ⟨w.heap.size, 3, none⟩) (Nat.le_refl _) (.string T)).setCell (p := ⟨w.heap.size, 4, none⟩) (Nat.le_refl _) (.bool false))
    replace hF := Lib.hid hF
    clear hZ hB hBW hEW hE hZ0 hb3 hl hZ5 hfin
    go_wp2_with fail
    refine bodyPost_ret (v := .tuple #[.agg #[.int .u8 2, .bool false, .int .i64 0, .string T, .bool false], .int .i64 0]) (by simp [results, Tryz.results46, go_sem, y0, y1, y2, y3, y4]) rfl ?_
    exact hF.out
end Go.Proofs.YtpjbcadelmjmfaaGreatDoor
