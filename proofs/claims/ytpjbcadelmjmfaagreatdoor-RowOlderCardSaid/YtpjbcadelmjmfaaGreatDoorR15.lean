/- The walk of Literal. -/
import Derived.Test.YtpjbcadelmjmfaaGreatDoorR14
import Derived.Test.YtpjbcadelmjmfaaGreatDoorRu
namespace Go.Proofs.YtpjbcadelmjmfaaGreatDoor
open Go.RowKit Go.Lib

theorem beqL (a : ByteArray) (l : List UInt8) : (a.toList == l) = decide (a.data.toList = l) := by
  rw [ByteArray.toList_eq, Bool.eq_iff_iff]; simp
theorem num_parse {l : List UInt8} (hd : allDig (trimPrefix l [45]) = true) (hne : trimPrefix l [45] ≠ []) : (∃ v, parseIntB 32 l = .ok v) ∨ parseIntB 32 l = .range := by
  unfold trimPrefix at hd hne
  by_cases hp : hasPrefix l [45] = true
  · rw [if_pos hp] at hd hne
    have : ∃ r, l = 45 :: r := by
      cases l with
      | nil => simp [hasPrefix] at hp
      | cons c r =>
        refine ⟨r, ?_⟩
        simp [hasPrefix, List.isPrefixOf] at hp
        rw [hp]
    obtain ⟨r, rfl⟩ := this
    simp at hd hne
    rw [parse_neg r hne hd]
    split
    · exact .inl ⟨_, rfl⟩
    · exact .inr rfl
  · rw [if_neg hp] at hd hne
    rw [parse_pos l hne hd]
    split
    · exact .inl ⟨_, rfl⟩
    · exact .inr rfl
theorem mid_data (s : ByteArray) : (s.extract 1 (s.size - 1)).data.toList = (s.data.toList.take (s.data.toList.length - 1)).drop 1 := by
  have : s.data.toList.length = s.size := by simp
  rw [extract_data, this, List.drop_take]
set_option maxHeartbeats 16000000 in
set_option maxRecDepth 100000 in
theorem literal_any (s : ByteArray) (hs : s.size ≤ 1000000) (w : World) (hE : Env w) :
    Calls Tryz.prog 26 #[.string s] w (LitPost w (litP s.data.toList)) := by
  obtain ⟨W, hW⟩ : ∃ W, W = w.alloc (.cells #[.int .u8 0, .bool false, .int .i64 0, .string ⟨#[]⟩, .bool false] 50) := ⟨_, rfl⟩
  have hZ0 : Has W w.heap.size [.int .u8 0, .bool false, .int .i64 0, .string ⟨#[]⟩, .bool false] 50 := by rw [hW]; exact Has.new w _ _
  have hBW : Below w.heap.size w W := by rw [hW]; exact (Below.refl _ _).alloc (Nat.le_refl _) _
  have hEW := hE.below hBW
  obtain ⟨q, hq⟩ : ∃ q, litP s.data.toList = q := ⟨_, rfl⟩
  have hqd := hq.symm
  unfold litP at hqd
  rw [hq]
  have hfin : ∀ (x : RV × Nat), q = x → ∀ w', Below w.heap.size w w' → LitPost w q (.returned (.tuple #[x.1.val, .int .i64 (x.2 : Nat)])) w' := by
    intro x hx w' hb
    rw [hx]
    exact ⟨rfl, hb⟩
  generalize LitPost w q = post at *
  have hss : s.data.toList.length = s.size := by simp
  have e1 : (s.toList == [110, 117, 108, 108]) = decide (s.data.toList = nullL) := beqL s nullL
  have e2 : (s.toList == [116, 114, 117, 101]) = decide (s.data.toList = trueL) := beqL s trueL
  have e3 : (s.toList == [102, 97, 108, 115, 101]) = decide (s.data.toList = falseL) := beqL s falseL
  replace hq := Lib.hid hq
  replace hW := Lib.hid hW
  by_cases h1 : s.data.toList = nullL
  · have hx : q = (⟨0, true, 0, ByteArray.empty, false⟩, 0) := by rw [hqd, if_pos h1]
    have hb0 := Below.refl W.heap.size W
    rw [decide_eq_true h1] at e1
    clear e2 e3 hss
    replace h1 := Lib.hid h1
    replace hqd := Lib.hid hqd
    have hZ := hZ0.only (Only.of_below hb0) (Nat.not_le.2 hZ0.lt)
    have hB := hBW.trans (hb0.mono hBW.size)
    replace hfin := hfin _ hx
    replace hx := Lib.hid hx
    have z0 := hZ.free 0
    have zc0 := hZ.cell (o := 0) rfl
    have z1 := hZ.free 1
    have zc1 := hZ.cell (o := 1) rfl
    have z2 := hZ.free 2
    have zc2 := hZ.cell (o := 2) rfl
    have z3 := hZ.free 3
    have zc3 := hZ.cell (o := 3) rfl
    have z4 := hZ.free 4
    have zc4 := hZ.cell (o := 4) rfl
    have hZ5 := (((((hZ.set 0 (.int .u8 0)).set 1 (.bool true)).set 2 (.int .i64 0)).set 3 (.string ⟨#[]⟩)).set 4 (.bool false))
    have y0 := hZ5.cell (o := 0) rfl
    have y1 := hZ5.cell (o := 1) rfl
    have y2 := hZ5.cell (o := 2) rfl
    have y3 := hZ5.cell (o := 3) rfl
    have y4 := hZ5.cell (o := 4) rfl
    have hF := hfin _ (((((hB.setCell (p := ⟨w.heap.size, 0, none⟩) (Nat.le_refl _) (.int .u8 0)).setCell (p := ⟨w.heap.size, 1, none⟩) (Nat.le_refl _) (.bool true)).setCell (p := ⟨w.heap.size, 2, none⟩) (Nat.le_refl _) (.int .i64 0)).setCell (p := ⟨w.heap.size, 3, none⟩) (Nat.le_refl _) (.string ⟨#[]⟩)).setCell (p := ⟨w.heap.size, 4, none⟩) (Nat.le_refl _) (.bool false))
    replace hF := Lib.hid hF
    clear hZ hB hBW hEW hE hZ0 hb0 hZ5 hfin
    go_enter Tryz.func26, Tryz.ntmps26
    go_upto_region 1 with fail
    rw [← hW.out]
    go_wp2_with fail
    refine bodyPost_ret (v := .tuple #[.agg #[.int .u8 0, .bool true, .int .i64 0, .string ⟨#[]⟩, .bool false], .int .i64 0]) (by simp [results, Tryz.results26, go_sem, y0, y1, y2, y3, y4]) rfl ?_
    exact hF.out
  · rw [decide_eq_false h1] at e1
    rw [if_neg h1] at hqd
    by_cases h2 : s.data.toList = trueL
    · have hx : q = (⟨3, false, 0, ByteArray.empty, true⟩, 0) := by rw [hqd, if_pos (.inl h2), decide_eq_true h2]
      have hb0 := Below.refl W.heap.size W
      rw [decide_eq_true h2] at e2
      clear e3 hss
      replace h1 := Lib.hid h1
      replace h2 := Lib.hid h2
      replace hqd := Lib.hid hqd
      have hZ := hZ0.only (Only.of_below hb0) (Nat.not_le.2 hZ0.lt)
      have hB := hBW.trans (hb0.mono hBW.size)
      replace hfin := hfin _ hx
      replace hx := Lib.hid hx
      have z0 := hZ.free 0
      have zc0 := hZ.cell (o := 0) rfl
      have z1 := hZ.free 1
      have zc1 := hZ.cell (o := 1) rfl
      have z2 := hZ.free 2
      have zc2 := hZ.cell (o := 2) rfl
      have z3 := hZ.free 3
      have zc3 := hZ.cell (o := 3) rfl
      have z4 := hZ.free 4
      have zc4 := hZ.cell (o := 4) rfl
      have hZ5 := (((((hZ.set 0 (.int .u8 3)).set 1 (.bool false)).set 2 (.int .i64 0)).set 3 (.string ⟨#[]⟩)).set 4 (.bool true))
      have y0 := hZ5.cell (o := 0) rfl
      have y1 := hZ5.cell (o := 1) rfl
      have y2 := hZ5.cell (o := 2) rfl
      have y3 := hZ5.cell (o := 3) rfl
      have y4 := hZ5.cell (o := 4) rfl
      have hF := hfin _ (((((hB.setCell (p := ⟨w.heap.size, 0, none⟩) (Nat.le_refl _) (.int .u8 3)).setCell (p := ⟨w.heap.size, 1, none⟩) (Nat.le_refl _) (.bool false)).setCell (p := ⟨w.heap.size, 2, none⟩) (Nat.le_refl _) (.int .i64 0)).setCell (p := ⟨w.heap.size, 3, none⟩) (Nat.le_refl _) (.string ⟨#[]⟩)).setCell (p := ⟨w.heap.size, 4, none⟩) (Nat.le_refl _) (.bool true))
      replace hF := Lib.hid hF
      clear hZ hB hBW hEW hE hZ0 hb0 hZ5 hfin
      go_enter Tryz.func26, Tryz.ntmps26
      go_upto_region 1 with fail
      rw [← hW.out]
      go_wp2_with fail
      refine bodyPost_ret (v := .tuple #[.agg #[.int .u8 3, .bool false, .int .i64 0, .string ⟨#[]⟩, .bool true], .int .i64 0]) (by simp [results, Tryz.results26, go_sem, y0, y1, y2, y3, y4]) rfl ?_
      exact hF.out
    · rw [decide_eq_false h2] at e2
      by_cases h3 : s.data.toList = falseL
      · have hx : q = (⟨3, false, 0, ByteArray.empty, false⟩, 0) := by rw [hqd, if_pos (.inr h3), decide_eq_false h2]
        have hb0 := Below.refl W.heap.size W
        rw [decide_eq_true h3] at e3
        clear hss
        replace h1 := Lib.hid h1
        replace h2 := Lib.hid h2
        replace h3 := Lib.hid h3
        replace hqd := Lib.hid hqd
        have hZ := hZ0.only (Only.of_below hb0) (Nat.not_le.2 hZ0.lt)
        have hB := hBW.trans (hb0.mono hBW.size)
        replace hfin := hfin _ hx
        replace hx := Lib.hid hx
        have z0 := hZ.free 0
        have zc0 := hZ.cell (o := 0) rfl
        have z1 := hZ.free 1
        have zc1 := hZ.cell (o := 1) rfl
        have z2 := hZ.free 2
        have zc2 := hZ.cell (o := 2) rfl
        have z3 := hZ.free 3
        have zc3 := hZ.cell (o := 3) rfl
        have z4 := hZ.free 4
        have zc4 := hZ.cell (o := 4) rfl
        have hZ5 := (((((hZ.set 0 (.int .u8 3)).set 1 (.bool false)).set 2 (.int .i64 0)).set 3 (.string ⟨#[]⟩)).set 4 (.bool false))
        have y0 := hZ5.cell (o := 0) rfl
        have y1 := hZ5.cell (o := 1) rfl
        have y2 := hZ5.cell (o := 2) rfl
        have y3 := hZ5.cell (o := 3) rfl
        have y4 := hZ5.cell (o := 4) rfl
        have hF := hfin _ (((((hB.setCell (p := ⟨w.heap.size, 0, none⟩) (Nat.le_refl _) (.int .u8 3)).setCell (p := ⟨w.heap.size, 1, none⟩) (Nat.le_refl _) (.bool false)).setCell (p := ⟨w.heap.size, 2, none⟩) (Nat.le_refl _) (.int .i64 0)).setCell (p := ⟨w.heap.size, 3, none⟩) (Nat.le_refl _) (.string ⟨#[]⟩)).setCell (p := ⟨w.heap.size, 4, none⟩) (Nat.le_refl _) (.bool false))
        replace hF := Lib.hid hF
        clear hZ hB hBW hEW hE hZ0 hb0 hZ5 hfin
        go_enter Tryz.func26, Tryz.ntmps26
        go_upto_region 1 with fail
        rw [← hW.out]
        go_wp2_with fail
        refine bodyPost_ret (v := .tuple #[.agg #[.int .u8 3, .bool false, .int .i64 0, .string ⟨#[]⟩, .bool false], .int .i64 0]) (by simp [results, Tryz.results26, go_sem, y0, y1, y2, y3, y4]) rfl ?_
        exact hF.out
      · rw [decide_eq_false h3] at e3
        rw [if_neg (by rintro (h | h); exact h2 h; exact h3 h)] at hqd
        replace h1 := Lib.hid h1
        replace h2 := Lib.hid h2
        replace h3 := Lib.hid h3
        obtain ⟨bq, hbq⟩ : ∃ b, b = isQ s.data.toList := ⟨_, rfl⟩
        rw [← hbq] at hqd
        replace hqd := Lib.hid hqd
        go_enter Tryz.func26, Tryz.ntmps26
        go_upto_region 7 with fail
        rw [← hW.out]
        go_cut [32] (fun p wx => p = .bool bq ∧ W = wx)
        case first =>
          clear hfin hZ0 hBW hEW hE e1 e2 e3
          unfold isQ at hbq
          rw [hss] at hbq
          by_cases hl : 2 ≤ s.size
          · have i1 : (s.size : Int) ≥ 2 := by omega
            have i2 : (s.size : Int) ≤ 9223372036854775807 := by omega
            obtain ⟨x0, hx0e⟩ : ∃ b, btS s 0 = b := ⟨_, rfl⟩
            have hx0 : ∀ h : 0 < s.size, (s[0]'h).toNat = x0 := fun h => (btS_get s 0 h).trans hx0e
            obtain ⟨x1, hx1e⟩ : ∃ b, btS s (s.size - 1) = b := ⟨_, rfl⟩
            have hx1 : ∀ h : s.size - 1 < s.size, (s[s.size - 1]'h).toNat = x1 := fun h => (btS_get s (s.size - 1) h).trans hx1e
            have p0 : (s.data.toList.getD 0 0 == 39) = decide (x0 = 39) := by rw [← hx0e, Bool.eq_iff_iff]; unfold btS; simp [← UInt8.toNat_inj]
            have p1 : (s.data.toList.getD (s.size - 1) 0 == 39) = decide (x1 = 39) := by rw [← hx1e, Bool.eq_iff_iff]; unfold btS; simp [← UInt8.toNat_inj]
            rw [p0, p1, decide_eq_true hl] at hbq
            clear p0 p1
            replace hx0e := Lib.hid hx0e
            replace hx1e := Lib.hid hx1e
            have b0 : ((x0 : Int) == 39) = decide (x0 = 39) := by rw [Bool.eq_iff_iff]; simp; omega
            have b1 : ((x1 : Int) == 39) = decide (x1 = 39) := by rw [Bool.eq_iff_iff]; simp; omega
            generalize decide (x0 = 39) = y0 at *
            generalize decide (x1 = 39) = y1 at *
            replace hbq := Lib.hid hbq
            clear hss
            cases y0 with
            | false =>
              go_wp2_with fail
              go_meet
              exact ⟨congrArg Value.bool (by rw [hbq.out]; rfl), rfl⟩
            | true =>
              go_wp2_with fail
              go_meet
              exact ⟨congrArg Value.bool (by rw [hbq.out]; cases y1 <;> rfl), rfl⟩
          · have i1 : ¬ (s.size : Int) ≥ 2 := by omega
            rw [decide_eq_false hl] at hbq
            replace hbq := Lib.hid hbq
            clear hss hl
            go_wp2_with fail
            go_meet
            exact ⟨congrArg Value.bool (by rw [hbq.out]; rfl), rfl⟩
        case rest =>
          obtain ⟨rfl, rfl⟩ := hcut
          have hsI : (s.size : Int) ≤ 9223372036854775807 := by omega
          cases bq with
          | true =>
            have hl2 : 2 ≤ s.size := by
              unfold isQ at hbq
              rw [hss] at hbq
              have := hbq.symm
              simp only [Bool.and_eq_true, decide_eq_true_eq] at this
              exact this.1.1
            have hlI : (2 : Int) ≤ (s.size : Int) := by omega
            have hx0 : q = quotP (s.extract 1 (s.size - 1)).data.toList := by
              rw [hqd.out, mid_data]
              rfl
            have hqt := quoted_any (s.extract 1 (s.size - 1)) (by rw [ByteArray.size_extract]; omega) W hEW
            rw [← hx0] at hqt
            have hsl : ∀ wx, (Instr.slice 9 (.string s) (some (.int .i64 1)) (some (.int .i64 ((s.size : Int) - 1))) none).run Tryz.prog wx = .ok (.string (s.extract 1 (s.size - 1))) wx := fun wx => by
              rw [show ((s.size : Int) - 1) = ((s.size - 1 : Nat) : Int) by omega]
              have := run_slice_string (P := Tryz.prog) wx 9 s .i64 .i64 1 ((s.size - 1 : Nat) : Int) Tryz.underlying9 (by omega) (by omega) (by omega)
              simpa using this
            obtain ⟨⟨vt, vn, vi, vx, vb⟩, er⟩ := q
            replace hqt := Lib.hid hqt
            replace hx0 := Lib.hid hx0
            clear hss hbq hqd e1 e2 e3
            go_wp2_with fail
            refine hqt.out.mono ?_
            rintro e w1 ⟨he, hb1⟩
            have he2 : e = .returned (.tuple #[.agg #[.int .u8 (vt : Int), .bool vn, .int .i64 vi, .string vx, .bool vb], .int .i64 (er : Int)]) := he
            clear he
            subst he2
            have hx : ((⟨vt, vn, vi, vx, vb⟩, er) : RV × Nat) = (⟨vt, vn, vi, vx, vb⟩, er) := rfl
            have hZ := hZ0.only (Only.of_below hb1) (Nat.not_le.2 hZ0.lt)
            have hB := hBW.trans (hb1.mono hBW.size)
            replace hfin := hfin _ hx
            replace hx := Lib.hid hx
            have z0 := hZ.free 0
            have zc0 := hZ.cell (o := 0) rfl
            have z1 := hZ.free 1
            have zc1 := hZ.cell (o := 1) rfl
            have z2 := hZ.free 2
            have zc2 := hZ.cell (o := 2) rfl
            have z3 := hZ.free 3
            have zc3 := hZ.cell (o := 3) rfl
            have z4 := hZ.free 4
            have zc4 := hZ.cell (o := 4) rfl
            have hZ5 := (((((hZ.set 0 (.int .u8 (vt : Int))).set 1 (.bool vn)).set 2 (.int .i64 vi)).set 3 (.string vx)).set 4 (.bool vb))
            have y0 := hZ5.cell (o := 0) rfl
            have y1 := hZ5.cell (o := 1) rfl
            have y2 := hZ5.cell (o := 2) rfl
            have y3 := hZ5.cell (o := 3) rfl
            have y4 := hZ5.cell (o := 4) rfl
            have hF := hfin _ (((((hB.setCell (p := ⟨w.heap.size, 0, none⟩) (Nat.le_refl _) (.int .u8 (vt : Int))).setCell (p := ⟨w.heap.size, 1, none⟩) (Nat.le_refl _) (.bool vn)).setCell (p := ⟨w.heap.size, 2, none⟩) (Nat.le_refl _) (.int .i64 vi)).setCell (p := ⟨w.heap.size, 3, none⟩) (Nat.le_refl _) (.string vx)).setCell (p := ⟨w.heap.size, 4, none⟩) (Nat.le_refl _) (.bool vb))
            replace hF := Lib.hid hF
            clear hZ hB hBW hEW hE hZ0 hb1 hqt hZ5 hfin
            go_wp2_with fail
            refine bodyPost_ret (v := .tuple #[.agg #[.int .u8 (vt : Int), .bool vn, .int .i64 vi, .string vx, .bool vb], .int .i64 (er : Int)]) (by simp [results, Tryz.results26, go_sem, y0, y1, y2, y3, y4]) rfl ?_
            exact hF.out
          | false =>
            have hqd2 := hqd.out
            rw [if_neg (by simp)] at hqd2
            unfold numP at hqd2
            simp only at hqd2
            obtain ⟨D, hD⟩ : ∃ D : ByteArray, D = ⟨(trimPrefix s.data.toList [45]).toArray⟩ := ⟨_, rfl⟩
            obtain ⟨d, hd⟩ : ∃ d, d = trimPrefix s.data.toList [45] := ⟨_, rfl⟩
            have hdl : d.length ≤ s.size := by
              rw [hd, ← hss]
              unfold trimPrefix
              split
              · simp
              · exact Nat.le_refl _
            have hDd : D.data.toList = d := by rw [hD, hd]
            have hDs : D.size = d.length := by rw [← hDd]; simp
            have htp := trimpre_any s ⟨#[45]⟩ W
            rw [show (⟨#[45]⟩ : ByteArray).data.toList = [45] from rfl, ← hD] at htp
            have htr := trim_any D ⟨#[48, 49, 50, 51, 52, 53, 54, 55, 56, 57]⟩ W (by omega) (by decide) (by
              intro j b hj
              have hall : ∀ b ∈ ([48, 49, 50, 51, 52, 53, 54, 55, 56, 57] : List UInt8), b.toNat < 128 := by decide
              exact hall b (List.mem_of_getElem? hj))
            rw [show (⟨#[48, 49, 50, 51, 52, 53, 54, 55, 56, 57]⟩ : ByteArray).data.toList = digs from rfl, hDd] at htr
            have htd := trim_digs d
            obtain ⟨tm, htm⟩ : ∃ t, t = trimS d digs := ⟨_, rfl⟩
            obtain ⟨Tm, hTm⟩ : ∃ T : ByteArray, T = ⟨tm.toArray⟩ := ⟨_, rfl⟩
            rw [← htm] at htr htd
            rw [← hTm] at htr
            have hTl : Tm.toList = tm := by rw [ByteArray.toList_eq, hTm]
            have hDl : D.toList = d := by rw [ByteArray.toList_eq, hDd]
            rw [← hd] at hqd2
            obtain ⟨bad, hbad⟩ : ∃ b : Bool, b = decide (allDig d = false ∨ d = [] ∨ (d.getD 0 0 = 48 ∧ s.data.toList ≠ [48])) := ⟨_, rfl⟩
            have hpo : bad = false → (∃ v, parseIntB 32 s.data.toList = .ok v) ∨ parseIntB 32 s.data.toList = .range := by
              intro h
              rw [h] at hbad
              have hn := of_decide_eq_false hbad.symm
              simp only [not_or] at hn
              exact num_parse (by rw [← hd]; simpa using hn.1) (by rw [← hd]; exact hn.2.1)
            have hq1 : bad = true → q = (badV, 11) := by
              intro h
              rw [hqd2, if_pos (of_decide_eq_true (hbad.symm.trans h))]
            have hq2 : bad = false → q = match parseIntB 32 s.data.toList with
                | .ok n => (⟨1, false, n, ByteArray.empty, false⟩, 0)
                | _ => (badV, 16) := by
              intro h
              rw [hqd2, if_neg (of_decide_eq_false (hbad.symm.trans h))]
              cases parseIntB 32 s.data.toList <;> rfl
            have e4 := beqL s [48]
            replace htp := Lib.hid htp
            replace htr := Lib.hid htr
            replace hq1 := Lib.hid hq1
            replace hq2 := Lib.hid hq2
            replace hpo := Lib.hid hpo
            replace hD := Lib.hid hD
            replace hDd := Lib.hid hDd
            replace hTm := Lib.hid hTm
            replace htm := Lib.hid htm
            replace hd := Lib.hid hd
            replace hbq := Lib.hid hbq
            clear hqd hqd2 e1 e2 e3
            go_wp2_with fail
            refine htp.out.mono ?_
            rintro e w' ⟨rfl, rfl⟩
            go_upto_region 10 with fail
            go_cut [58] (fun p wx => p = .bool bad ∧ Below w'.heap.size w' wx)
            case first =>
              clear hfin hZ0 hBW hEW hE hpo hq1 hq2
              go_wp2_with fail
              refine htr.out.mono ?_
              rintro e w1 ⟨rfl, hb1⟩
              clear htr htp
              cases hA : allDig d with
              | false =>
                have hne : tm ≠ [] := fun h => by rw [htd.1 h] at hA; cases hA
                have hem : Tm.toList.isEmpty = false := by rw [hTl]; cases tm with
                  | nil => exact absurd rfl hne
                  | cons a b => rfl
                have hbt : bad = true := by rw [hbad]; exact decide_eq_true (.inl hA)
                subst hbt
                replace hbad := Lib.hid hbad
                replace hb1 := Lib.hid hb1
                clear htd hTl hDl hne hss
                replace hA := Lib.hid hA
                go_wp2_with fail
                go_meet
                exact ⟨rfl, hb1.out⟩
              | true =>
                have hte : tm = [] := htd.2 hA
                rw [hte] at hTl
                cases hdn : d with
                | nil =>
                  rw [hdn] at hDl
                  have hbt : bad = true := by rw [hbad]; exact decide_eq_true (.inr (.inl hdn))
                  subst hbt
                  replace hbad := Lib.hid hbad
                  replace hb1 := Lib.hid hb1
                  replace hdn := Lib.hid hdn
                  replace hA := Lib.hid hA
                  replace hte := Lib.hid hte
                  clear htd hss
                  go_wp2_with fail
                  go_meet
                  exact ⟨rfl, hb1.out⟩
                | cons c r =>
                  have hDe : D.toList.isEmpty = false := by rw [hDl, hdn]; rfl
                  have hDp : 0 < D.size := by rw [hDs, hdn]; simp
                  have hDI : (0 : Int) < D.size := by omega
                  have hc0 : ∀ h : 0 < D.size, (D[0]'h).toNat = c.toNat := fun h => by
                    rw [btS_get D 0 h]
                    unfold btS
                    rw [hDd.out, hdn]; rfl
                  have hbb : bad = (decide (c.toNat = 48) && !decide (s.data.toList = [48])) := by
                    rw [hbad, hdn, Bool.eq_iff_iff]
                    rw [hdn] at hA
                    simp only [decide_eq_true_eq, Bool.and_eq_true, Bool.not_eq_true', decide_eq_false_iff_not, hA]
                    have : (c :: r).getD 0 0 = c := rfl
                    rw [this]
                    constructor
                    · rintro (h | h | h)
                      · cases h
                      · cases h
                      · exact ⟨by rw [h.1]; rfl, h.2⟩
                    · rintro ⟨h1, h2⟩
                      exact .inr (.inr ⟨UInt8.toNat_inj.1 (by rw [h1]; rfl), h2⟩)
                  have b1 : ((c.toNat : Int) == 48) = decide (c.toNat = 48) := by rw [Bool.eq_iff_iff]; simp; omega
                  generalize decide (c.toNat = 48) = y1 at *
                  generalize decide (s.data.toList = [48]) = y2 at *
                  generalize c.toNat = cn at *
                  replace hbad := Lib.hid hbad
                  replace hb1 := Lib.hid hb1
                  replace hdn := Lib.hid hdn
                  replace hA := Lib.hid hA
                  replace hte := Lib.hid hte
                  replace hbb := Lib.hid hbb
                  replace hDs := Lib.hid hDs
                  clear htd hDl hss
                  cases y1 with
                  | false =>
                    go_wp2_with fail
                    go_meet
                    exact ⟨congrArg Value.bool (by rw [hbb.out]; rfl), hb1.out⟩
                  | true =>
                    go_wp2_with fail
                    go_meet
                    exact ⟨congrArg Value.bool (by rw [hbb.out]; cases y2 <;> rfl), hb1.out⟩
            case rest =>
              rename World => w1
              obtain ⟨rfl, hb1⟩ := hcut
              clear htp htr hbad htd hTl hDl e4 hss hDs
              cases bad with
              | true =>
                have hx := hq1.out (by trivial)
                clear hq1 hq2 hpo
                have hZ := hZ0.only (Only.of_below hb1) (Nat.not_le.2 hZ0.lt)
                have hB := hBW.trans (hb1.mono hBW.size)
                replace hfin := hfin _ hx
                replace hx := Lib.hid hx
                have z0 := hZ.free 0
                have zc0 := hZ.cell (o := 0) rfl
                have z1 := hZ.free 1
                have zc1 := hZ.cell (o := 1) rfl
                have z2 := hZ.free 2
                have zc2 := hZ.cell (o := 2) rfl
                have z3 := hZ.free 3
                have zc3 := hZ.cell (o := 3) rfl
                have z4 := hZ.free 4
                have zc4 := hZ.cell (o := 4) rfl
                have hZ5 := (((((hZ.set 0 (.int .u8 0)).set 1 (.bool false)).set 2 (.int .i64 0)).set 3 (.string ⟨#[]⟩)).set 4 (.bool false))
                have y0 := hZ5.cell (o := 0) rfl
                have y1 := hZ5.cell (o := 1) rfl
                have y2 := hZ5.cell (o := 2) rfl
                have y3 := hZ5.cell (o := 3) rfl
                have y4 := hZ5.cell (o := 4) rfl
                have hF := hfin _ (((((hB.setCell (p := ⟨w.heap.size, 0, none⟩) (Nat.le_refl _) (.int .u8 0)).setCell (p := ⟨w.heap.size, 1, none⟩) (Nat.le_refl _) (.bool false)).setCell (p := ⟨w.heap.size, 2, none⟩) (Nat.le_refl _) (.int .i64 0)).setCell (p := ⟨w.heap.size, 3, none⟩) (Nat.le_refl _) (.string ⟨#[]⟩)).setCell (p := ⟨w.heap.size, 4, none⟩) (Nat.le_refl _) (.bool false))
                replace hF := Lib.hid hF
                clear hZ hB hBW hEW hE hZ0 hb1 hZ5 hfin
                go_wp2_with fail
                refine bodyPost_ret (v := .tuple #[.agg #[.int .u8 0, .bool false, .int .i64 0, .string ⟨#[]⟩, .bool false], .int .i64 11]) (by simp [results, Tryz.results26, go_sem, y0, y1, y2, y3, y4]) rfl ?_
                exact hF.out
              | false =>
                have hx0 := hq2.out (by trivial)
                have hp := hpo.out (by trivial)
                clear hq1 hq2 hpo
                rcases hp with ⟨v, hv⟩ | hv
                · rw [hv] at hx0
                  have hx : q = (⟨1, false, v, ByteArray.empty, false⟩, 0) := hx0
                  have hpp := parse_ok s (by omega) v hv w1
                  replace hx0 := Lib.hid hx0
                  replace hpp := Lib.hid hpp
                  replace hv := Lib.hid hv
                  go_wp2_with fail
                  refine hpp.out.mono ?_
                  rintro e w2 ⟨rfl, hb12⟩
                  have hb2 := hb1.trans (hb12.mono hb1.size)
                  have hZ := hZ0.only (Only.of_below hb2) (Nat.not_le.2 hZ0.lt)
                  have hB := hBW.trans (hb2.mono hBW.size)
                  replace hfin := hfin _ hx
                  replace hx := Lib.hid hx
                  have z0 := hZ.free 0
                  have zc0 := hZ.cell (o := 0) rfl
                  have z1 := hZ.free 1
                  have zc1 := hZ.cell (o := 1) rfl
                  have z2 := hZ.free 2
                  have zc2 := hZ.cell (o := 2) rfl
                  have z3 := hZ.free 3
                  have zc3 := hZ.cell (o := 3) rfl
                  have z4 := hZ.free 4
                  have zc4 := hZ.cell (o := 4) rfl
                  have hZ5 := (((((hZ.set 0 (.int .u8 1)).set 1 (.bool false)).set 2 (.int .i64 v)).set 3 (.string ⟨#[]⟩)).set 4 (.bool false))
                  have y0 := hZ5.cell (o := 0) rfl
                  have y1 := hZ5.cell (o := 1) rfl
                  have y2 := hZ5.cell (o := 2) rfl
                  have y3 := hZ5.cell (o := 3) rfl
                  have y4 := hZ5.cell (o := 4) rfl
                  have hF := hfin _ (((((hB.setCell (p := ⟨w.heap.size, 0, none⟩) (Nat.le_refl _) (.int .u8 1)).setCell (p := ⟨w.heap.size, 1, none⟩) (Nat.le_refl _) (.bool false)).setCell (p := ⟨w.heap.size, 2, none⟩) (Nat.le_refl _) (.int .i64 v)).setCell (p := ⟨w.heap.size, 3, none⟩) (Nat.le_refl _) (.string ⟨#[]⟩)).setCell (p := ⟨w.heap.size, 4, none⟩) (Nat.le_refl _) (.bool false))
                  replace hF := Lib.hid hF
                  clear hZ hB hBW hEW hE hZ0 hb1 hb2 hb12 hpp hZ5 hfin
                  go_wp2_with fail
                  refine bodyPost_ret (v := .tuple #[.agg #[.int .u8 1, .bool false, .int .i64 v, .string ⟨#[]⟩, .bool false], .int .i64 0]) (by simp [results, Tryz.results26, go_sem, y0, y1, y2, y3, y4]) rfl ?_
                  exact hF.out
                · rw [hv] at hx0
                  have hx : q = (badV, 16) := hx0
                  have hpp := parse_range s (by omega) hv w1 (hEW.below hb1)
                  replace hx0 := Lib.hid hx0
                  replace hpp := Lib.hid hpp
                  replace hv := Lib.hid hv
                  go_wp2_with fail
                  refine hpp.out.mono ?_
                  rintro e w2 ⟨⟨pn, tp, pp, rfl⟩, hb12⟩
                  have hb2 := hb1.trans (hb12.mono hb1.size)
                  have hZ := hZ0.only (Only.of_below hb2) (Nat.not_le.2 hZ0.lt)
                  have hB := hBW.trans (hb2.mono hBW.size)
                  replace hfin := hfin _ hx
                  replace hx := Lib.hid hx
                  have z0 := hZ.free 0
                  have zc0 := hZ.cell (o := 0) rfl
                  have z1 := hZ.free 1
                  have zc1 := hZ.cell (o := 1) rfl
                  have z2 := hZ.free 2
                  have zc2 := hZ.cell (o := 2) rfl
                  have z3 := hZ.free 3
                  have zc3 := hZ.cell (o := 3) rfl
                  have z4 := hZ.free 4
                  have zc4 := hZ.cell (o := 4) rfl
                  have hZ5 := (((((hZ.set 0 (.int .u8 0)).set 1 (.bool false)).set 2 (.int .i64 0)).set 3 (.string ⟨#[]⟩)).set 4 (.bool false))
                  have y0 := hZ5.cell (o := 0) rfl
                  have y1 := hZ5.cell (o := 1) rfl
                  have y2 := hZ5.cell (o := 2) rfl
                  have y3 := hZ5.cell (o := 3) rfl
                  have y4 := hZ5.cell (o := 4) rfl
                  have hF := hfin _ (((((hB.setCell (p := ⟨w.heap.size, 0, none⟩) (Nat.le_refl _) (.int .u8 0)).setCell (p := ⟨w.heap.size, 1, none⟩) (Nat.le_refl _) (.bool false)).setCell (p := ⟨w.heap.size, 2, none⟩) (Nat.le_refl _) (.int .i64 0)).setCell (p := ⟨w.heap.size, 3, none⟩) (Nat.le_refl _) (.string ⟨#[]⟩)).setCell (p := ⟨w.heap.size, 4, none⟩) (Nat.le_refl _) (.bool false))
                  replace hF := Lib.hid hF
                  clear hZ hB hBW hEW hE hZ0 hb1 hb2 hb12 hpp hZ5 hfin
                  go_wp2_with fail
                  refine bodyPost_ret (v := .tuple #[.agg #[.int .u8 0, .bool false, .int .i64 0, .string ⟨#[]⟩, .bool false], .int .i64 16]) (by simp [results, Tryz.results26, go_sem, y0, y1, y2, y3, y4]) rfl ?_
                  exact hF.out
end Go.Proofs.YtpjbcadelmjmfaaGreatDoor
