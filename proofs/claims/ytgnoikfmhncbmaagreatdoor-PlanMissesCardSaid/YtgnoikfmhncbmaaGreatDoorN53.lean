/- Walks: plan.Text. -/
import Derived.Test.YtgnoikfmhncbmaaGreatDoorN4
set_option linter.unusedVariables false
set_option linter.unusedSimpArgs false
namespace Go.Proofs.YtgnoikfmhncbmaaGreatDoor
open Go.RowKit Go.Lib
set_option maxHeartbeats 8000000 in
set_option maxRecDepth 100000 in
theorem text_p3 {w : World} (hE : Env w) (col : ByteArray) (ta : Nat) (na : Bool) (ia : Int) (xa : ByteArray) (ba1 : Bool) (tb : Nat) (nb : Bool) (ib : Int) (xb : ByteArray) (bb : Bool) (fa fb : Nat) (hfa : fa < 4294967296) (hfb : fb < 4294967296) (f : Option Addr) (od : ByteArray) (ds : Bool) (lm : Int) (hl0 : -9223372036854775808 ≤ lm) (hl1 : lm ≤ 9223372036854775807)
    (hsa : xa.size ≤ 9223372036854775807) (hsb : xb.size ≤ 9223372036854775807) (hsz : (join (pathL 3 col ⟨ta, na, ia, xa, ba1⟩ ⟨tb, nb, ib, xb, bb⟩ fa fb ++ tailL f.isSome od ds lm) [32]).length ≤ 140737488355328) :
    Calls Tryz.prog 15 #[.agg #[.int .u8 3, .string col, .int .u8 (ta : Int), .bool na, .int .i64 ia, .string xa, .bool ba1, .int .u8 (tb : Int), .bool nb, .int .i64 ib, .string xb, .bool bb, .int .u32 (fa : Int), .int .u32 (fb : Int), .pointer f, .string od, .bool ds, .int .i64 lm]] w (RPost w (.string (ba (join (pathL 3 col ⟨ta, na, ia, xa, ba1⟩ ⟨tb, nb, ib, xb, bb⟩ fa fb ++ tailL f.isSome od ds lm) [32])))) := by
  generalize hpost : RPost w (.string (ba (join (pathL 3 col ⟨ta, na, ia, xa, ba1⟩ ⟨tb, nb, ib, xb, bb⟩ fa fb ++ tailL f.isSome od ds lm) [32]))) = post
  have hfin : ∀ w', Below w.heap.size w w' → post (.returned (.string (ba (join (pathL 3 col ⟨ta, na, ia, xa, ba1⟩ ⟨tb, nb, ib, xb, bb⟩ fa fb ++ tailL f.isSome od ds lm) [32])))) w' := fun w' hb => by rw [← hpost]; exact ⟨rfl, hb⟩
  replace hpost := Lib.hid hpost
  replace hfin := Lib.hid hfin
  replace hsz := Lib.hid hsz
  obtain ⟨W, hW⟩ : ∃ W, W = w.alloc (.cells #[.int .u8 3, .string col, .int .u8 (ta : Int), .bool na, .int .i64 ia, .string xa, .bool ba1, .int .u8 (tb : Int), .bool nb, .int .i64 ib, .string xb, .bool bb, .int .u32 (fa : Int), .int .u32 (fb : Int), .pointer f, .string od, .bool ds, .int .i64 lm] 43) := ⟨_, rfl⟩
  have hP : Has W w.heap.size [.int .u8 3, .string col, .int .u8 (ta : Int), .bool na, .int .i64 ia, .string xa, .bool ba1, .int .u8 (tb : Int), .bool nb, .int .i64 ib, .string xb, .bool bb, .int .u32 (fa : Int), .int .u32 (fb : Int), .pointer f, .string od, .bool ds, .int .i64 lm] 43 := by rw [hW]; exact Has.new w _ _
  have hBW : Below w.heap.size w W := by rw [hW]; exact (Below.refl _ _).alloc (Nat.le_refl _) _
  have hEW := hE.below hBW
  have hT := TxSt.start hP
  obtain ⟨bP, hbP⟩ : ∃ b, b = w.heap.size := ⟨_, rfl⟩
  clear hbP
  replace hBW := Lib.hid hBW
  replace hEW := Lib.hid hEW
  replace hT := Lib.hid hT
  replace hW := Lib.hid hW.symm
  have c0 := hP.cell (o := 0) rfl
  replace hP := Lib.hid hP
  go_enter Tryz.func15, Tryz.ntmps15
  go_upto_region 1 with fail
  rw [hW.out]
  go_upto_block 0 with fail
  go_cut [3] (fun v2 wx => TxSt W w.heap.size [.int .u8 3, .string col, .int .u8 (ta : Int), .bool na, .int .i64 ia, .string xa, .bool ba1, .int .u8 (tb : Int), .bool nb, .int .i64 ib, .string xb, .bool bb, .int .u32 (fa : Int), .int .u32 (fb : Int), .pointer f, .string od, .bool ds, .int .i64 lm] (pathL 3 col ⟨ta, na, ia, xa, ba1⟩ ⟨tb, nb, ib, xb, bb⟩ fa fb) v2 wx)
  case first =>
    as_aux_lemma =>
      have kT := fun wx (hb : Below W.heap.size W wx) => hT.out.below hb
      have cC : ∀ wz, Below W.heap.size W wz → wz.cell? ⟨w.heap.size, 1, none⟩ = some (.string col) ∧ wz.cell? ⟨w.heap.size, 2, none⟩ = some (.int .u8 (ta : Int)) ∧ wz.cell? ⟨w.heap.size, 3, none⟩ = some (.bool na) ∧ wz.cell? ⟨w.heap.size, 4, none⟩ = some (.int .i64 ia) ∧ wz.cell? ⟨w.heap.size, 5, none⟩ = some (.string xa) ∧ wz.cell? ⟨w.heap.size, 6, none⟩ = some (.bool ba1) ∧ wz.cell? ⟨w.heap.size, 7, none⟩ = some (.int .u8 (tb : Int)) ∧ wz.cell? ⟨w.heap.size, 8, none⟩ = some (.bool nb) ∧ wz.cell? ⟨w.heap.size, 9, none⟩ = some (.int .i64 ib) ∧ wz.cell? ⟨w.heap.size, 10, none⟩ = some (.string xb) ∧ wz.cell? ⟨w.heap.size, 11, none⟩ = some (.bool bb) := fun wz hx => ⟨(kT wz hx).P.cell (o := 1) rfl, (kT wz hx).P.cell (o := 2) rfl, (kT wz hx).P.cell (o := 3) rfl, (kT wz hx).P.cell (o := 4) rfl, (kT wz hx).P.cell (o := 5) rfl, (kT wz hx).P.cell (o := 6) rfl, (kT wz hx).P.cell (o := 7) rfl, (kT wz hx).P.cell (o := 8) rfl, (kT wz hx).P.cell (o := 9) rfl, (kT wz hx).P.cell (o := 10) rfl, (kT wz hx).P.cell (o := 11) rfl⟩
      have k0 : ∀ wx, Below W.heap.size W wx → Calls Tryz.prog 35 #[.agg #[.int .u8 (ta : Int), .bool na, .int .i64 ia, .string xa, .bool ba1]] wx (fun e wz => e = .returned (.string (ba (boundP ⟨ta, na, ia, xa, ba1⟩))) ∧ Below W.heap.size W wz ∧ wz.cell? ⟨w.heap.size, 1, none⟩ = some (.string col) ∧ wz.cell? ⟨w.heap.size, 2, none⟩ = some (.int .u8 (ta : Int)) ∧ wz.cell? ⟨w.heap.size, 3, none⟩ = some (.bool na) ∧ wz.cell? ⟨w.heap.size, 4, none⟩ = some (.int .i64 ia) ∧ wz.cell? ⟨w.heap.size, 5, none⟩ = some (.string xa) ∧ wz.cell? ⟨w.heap.size, 6, none⟩ = some (.bool ba1) ∧ wz.cell? ⟨w.heap.size, 7, none⟩ = some (.int .u8 (tb : Int)) ∧ wz.cell? ⟨w.heap.size, 8, none⟩ = some (.bool nb) ∧ wz.cell? ⟨w.heap.size, 9, none⟩ = some (.int .i64 ib) ∧ wz.cell? ⟨w.heap.size, 10, none⟩ = some (.string xb) ∧ wz.cell? ⟨w.heap.size, 11, none⟩ = some (.bool bb)) := fun wx hx => (boundtext_any ta na ia xa ba1 hsa wx (hEW.out.below hx)).mono fun e wz ⟨he, hb⟩ => ⟨he, hx.trans (hb.mono hx.size), cC wz (hx.trans (hb.mono hx.size))⟩
      replace k0 := Lib.hid k0
      have k1 : ∀ wx, Below W.heap.size W wx → Calls Tryz.prog 35 #[.agg #[.int .u8 (tb : Int), .bool nb, .int .i64 ib, .string xb, .bool bb]] wx (fun e wz => e = .returned (.string (ba (boundP ⟨tb, nb, ib, xb, bb⟩))) ∧ Below W.heap.size W wz ∧ wz.cell? ⟨w.heap.size, 1, none⟩ = some (.string col) ∧ wz.cell? ⟨w.heap.size, 2, none⟩ = some (.int .u8 (ta : Int)) ∧ wz.cell? ⟨w.heap.size, 3, none⟩ = some (.bool na) ∧ wz.cell? ⟨w.heap.size, 4, none⟩ = some (.int .i64 ia) ∧ wz.cell? ⟨w.heap.size, 5, none⟩ = some (.string xa) ∧ wz.cell? ⟨w.heap.size, 6, none⟩ = some (.bool ba1) ∧ wz.cell? ⟨w.heap.size, 7, none⟩ = some (.int .u8 (tb : Int)) ∧ wz.cell? ⟨w.heap.size, 8, none⟩ = some (.bool nb) ∧ wz.cell? ⟨w.heap.size, 9, none⟩ = some (.int .i64 ib) ∧ wz.cell? ⟨w.heap.size, 10, none⟩ = some (.string xb) ∧ wz.cell? ⟨w.heap.size, 11, none⟩ = some (.bool bb)) := fun wx hx => (boundtext_any tb nb ib xb bb hsb wx (hEW.out.below hx)).mono fun e wz ⟨he, hb⟩ => ⟨he, hx.trans (hb.mono hx.size), cC wz (hx.trans (hb.mono hx.size))⟩
      replace k1 := Lib.hid k1
      have hx := (Below.refl W.heap.size W).drew
      obtain ⟨y1, y2, y3, y4, y5, y6, y7, y8, y9, y10, y11⟩ := cC W.drew hx
      replace kT := Lib.hid kT
      clear cC c0
      have hob : strV col.data.toList = .string col := by rw [strV, ba_of]
      replace hob := Lib.hid hob
      go_upto_region 9 with fail
      go_region_law ((first | (refine step_txt (by rfl) _ _ (by rfl) (kT.out _ hx) (by rfl) [indexW, col.data.toList, boundP ⟨ta, na, ia, xa, ba1⟩, boundP ⟨tb, nb, ib, xb, bb⟩] (by show (4 : Nat) ≤ 100; decide) (by rfl) _ (by simp only [List.map, hob.out]; rfl) ?_; intro v9 w9 hT9) | (go_simp; (with_reducible refine (k0.out _ ?_).mono ?_); (first | exact hx | fail); rintro e wz ⟨rfl, hx, y1, y2, y3, y4, y5, y6, y7, y8, y9, y10, y11⟩) | (go_simp; (with_reducible refine (k1.out _ ?_).mono ?_); (first | exact hx | fail); rintro e wz ⟨rfl, hx, y1, y2, y3, y4, y5, y6, y7, y8, y9, y10, y11⟩)))
      all_goals
        have hT9 := Lib.hid hT9
        go_wp2_with fail
        go_meet
        exact hT9.out
  case rest =>
    rename World => w2
    rename Value => v2
    have hT3 := hcut
    as_aux_lemma =>
      go_upto_region 10 with fail
      obtain ⟨L0, hL0⟩ : ∃ L0, L0 = pathL 3 col ⟨ta, na, ia, xa, ba1⟩ ⟨tb, nb, ib, xb, bb⟩ fa fb := ⟨_, rfl⟩
      have hne : L0 ≠ [] ∧ L0.length ≤ 4 := by rw [hL0]; exact ⟨(by intro h; cases h), (by show (4 : Nat) ≤ 4; decide)⟩
      rw [← hL0] at hT3
      replace hfin := hfin.out
      rw [← hL0] at hfin
      replace hfin := Lib.hid hfin
      replace hsz := hsz.out
      rw [← hL0] at hsz
      replace hsz := Lib.hid hsz
      replace hL0 := Lib.hid hL0
      replace hne := Lib.hid hne
      clear c0 hT hP hsa hsb
      have c14 := hT3.P.cell (o := 14) rfl
      have hbW3 := Lib.hid hT3.hb
      replace hT3 := Lib.hid hT3
      go_cut [39] (fun q wx => q = .bool f.isSome ∧ w2 = wx)
      case first => as_aux_lemma =>
        cases f with
        | none => go_wp2_with fail
                  go_meet
                  exact ⟨rfl, rfl⟩
        | some ad => go_wp2_with fail
                     go_meet
                     exact ⟨rfl, rfl⟩
      case rest =>
        rename World => w3
        obtain ⟨rfl, rfl⟩ := hcut
        clear c14
        obtain ⟨fs, hfs⟩ : ∃ fs, f.isSome = fs := ⟨_, rfl⟩
        rw [hfs]
        replace hfin := hfin.out
        rw [hfs] at hfin
        replace hfin := Lib.hid hfin
        replace hsz := hsz.out
        rw [hfs] at hsz
        replace hsz := Lib.hid hsz
        replace hfs := Lib.hid hfs
        go_upto_if 39 with fail
        go_cut [3] (fun v2 wx => TxSt W w.heap.size [.int .u8 3, .string col, .int .u8 (ta : Int), .bool na, .int .i64 ia, .string xa, .bool ba1, .int .u8 (tb : Int), .bool nb, .int .i64 ib, .string xb, .bool bb, .int .u32 (fa : Int), .int .u32 (fb : Int), .pointer f, .string od, .bool ds, .int .i64 lm] (L0 ++ filL fs) v2 wx)
        case first =>
          as_aux_lemma =>
            cases fs with
            | false => go_wp2_with fail
                       go_meet
                       exact by rw [show L0 ++ filL false = L0 from List.append_nil _]; exact hT3.out
            | true => go_wp2_with (refine wpList_txt rfl _ _ rfl hT3.out rfl [filterW] (by have := hne.out.2; simp; omega) rfl _ rfl ?_; intro v4 w4 hT4; replace hT4 := Lib.hid hT4)
                      go_meet
                      exact hT4.out
        case rest =>
          rename World => w4
          rename Value => v4
          have hT4 := hcut
          obtain ⟨L1, hL1⟩ : ∃ L1, L1 = L0 ++ filL fs := ⟨_, rfl⟩
          rw [← hL1] at hT4
          have hn1 : L1.length ≤ 5 := by have := hne.out.2; rw [hL1]; cases fs <;> simp [filL] <;> omega
          replace hL1 := Lib.hid hL1
          replace hn1 := Lib.hid hn1
          have c15 := hT4.P.cell (o := 15) rfl
          have hbW4 := Lib.hid hT4.hb
          replace hT4 := Lib.hid hT4
          clear hT3 hbW3
          as_aux_lemma =>
            obtain ⟨oz, hoz⟩ : ∃ oz, (!od.toList.isEmpty) = oz := ⟨_, rfl⟩
            have hez : od = ⟨#[]⟩ ↔ oz = false := by
              rw [← hoz]
              constructor
              · intro h; rw [h, ByteArray.toList_eq]; rfl
              · intro h; rw [ByteArray.toList_eq] at h; exact ba_eq (by simpa using h)
            replace hez := Lib.hid hez
            go_upto_region 12 with fail
            go_cut [45] (fun q wx => q = .bool oz ∧ w4 = wx)
            case first => as_aux_lemma =>
              go_wp2_with fail
              go_meet
              exact ⟨rfl, rfl⟩
            case rest =>
              rename World => w5
              obtain ⟨rfl, rfl⟩ := hcut
              replace hoz := Lib.hid hoz
              have c16 := hT4.out.P.cell (o := 16) rfl
              go_upto_if 45 with fail
              go_cut [3] (fun v2 wx => TxSt W w.heap.size [.int .u8 3, .string col, .int .u8 (ta : Int), .bool na, .int .i64 ia, .string xa, .bool ba1, .int .u8 (tb : Int), .bool nb, .int .i64 ib, .string xb, .bool bb, .int .u32 (fa : Int), .int .u32 (fb : Int), .pointer f, .string od, .bool ds, .int .i64 lm] (L1 ++ ordL od ds) v2 wx)
              case first =>
                as_aux_lemma =>
                  cases oz with
                  | false =>
                    have e : L1 ++ ordL od ds = L1 := by rw [ordL, if_pos (hez.out.2 rfl), List.append_nil]
                    replace e := Lib.hid e
                    go_wp2_with fail
                    go_meet
                    exact by rw [e.out]; exact hT4.out
                  | true =>
                    have e : ordL od ds = [orderW, od.data.toList] ++ dscL ds := by rw [ordL, if_neg (fun h => by have := hez.out.1 h; cases this)]
                    replace e := Lib.hid e
                    have hob : strV od.data.toList = .string od := by rw [strV, ba_of]
                    go_upto_region 14 with (refine wpList_txt rfl _ _ rfl hT4.out rfl [orderW, od.data.toList] (by have := hn1.out; simp; omega) rfl _ (by simp only [List.map, hob]; rfl) ?_; intro v6 w6 hT6; replace hT6 := Lib.hid hT6)
                    have d16 := hT6.out.P.cell (o := 16) rfl
                    replace hob := Lib.hid hob
                    clear c15 c16
                    cases ds with
                    | false => go_wp2_with fail
                               go_meet
                               exact by rw [e.out, show [orderW, od.data.toList] ++ dscL false = [orderW, od.data.toList] from rfl]; exact hT6.out
                    | true => go_wp2_with (refine wpList_txt rfl _ _ rfl hT6.out rfl [descW] (by have := hn1.out; simp; omega) rfl _ rfl ?_; intro v7 w7 hT7; replace hT7 := Lib.hid hT7)
                              go_meet
                              exact by rw [e.out, show L1 ++ ([orderW, od.data.toList] ++ dscL true) = (L1 ++ [orderW, od.data.toList]) ++ [descW] from (List.append_assoc _ _ _).symm]; exact hT7.out
              case rest =>
                rename World => w6
                rename Value => v6
                have hT6 := hcut
                obtain ⟨L2, hL2⟩ : ∃ L2, L2 = L1 ++ ordL od ds := ⟨_, rfl⟩
                rw [← hL2] at hT6
                have hn2 : L2.length ≤ 8 := by
                  have := hn1.out
                  rw [hL2, List.length_append]
                  have : (ordL od ds).length ≤ 3 := by unfold ordL; split <;> cases ds <;> simp [dscL]
                  omega
                replace hL2 := Lib.hid hL2
                replace hn2 := Lib.hid hn2
                have c17 := hT6.P.cell (o := 17) rfl
                have hbW6 := hT6.hb
                replace hT6 := Lib.hid hT6
                clear hT4 hbW4 c15 c16 hez hoz
                as_aux_lemma =>
                  have hit := itoa10_any lm hl0 hl1 w6 (hEW.out.below hbW6)
                  replace hbW6 := Lib.hid hbW6
                  replace hit := Lib.hid hit
                  go_upto_region 16 with fail
                  go_cut [58] (fun q wx => q = .bool (decide (0 ≤ lm)) ∧ w6 = wx)
                  case first => as_aux_lemma =>
                    by_cases h : 0 ≤ lm
                    · have h2 : decide (0 ≤ lm) = true := decide_eq_true h
                      have h3 : lm ≥ 0 := h
                      go_wp2_with fail
                      go_meet
                      exact ⟨by rw [h2], rfl⟩
                    · have h2 : decide (0 ≤ lm) = false := decide_eq_false h
                      have h3 : ¬ lm ≥ 0 := h
                      go_wp2_with fail
                      go_meet
                      exact ⟨by rw [h2], rfl⟩
                  case rest =>
                    rename World => w7
                    obtain ⟨rfl, rfl⟩ := hcut
                    go_upto_if 58 with fail
                    go_cut [3] (fun v2 wx => TxSt W w.heap.size [.int .u8 3, .string col, .int .u8 (ta : Int), .bool na, .int .i64 ia, .string xa, .bool ba1, .int .u8 (tb : Int), .bool nb, .int .i64 ib, .string xb, .bool bb, .int .u32 (fa : Int), .int .u32 (fb : Int), .pointer f, .string od, .bool ds, .int .i64 lm] (L2 ++ limL lm) v2 wx)
                    case first =>
                      as_aux_lemma =>
                        by_cases h : 0 ≤ lm
                        ·
                          have h2 : decide (0 ≤ lm) = true := decide_eq_true h
                          have e : limL lm = [limitW, itoa lm] := if_pos h
                          replace e := Lib.hid e
                          go_wp2_with fail
                          refine hit.out.mono ?_
                          rintro e8 w8 ⟨rfl, hb8⟩
                          have hT8 := hT6.out.below hb8
                          clear hb8
                          replace hT8 := Lib.hid hT8
                          clear c17
                          go_wp2_with (refine wpList_txt rfl _ _ rfl hT8.out rfl [limitW, itoa lm] (by have := hn2.out; simp; omega) rfl _ rfl ?_; intro v9 w9 hT9; replace hT9 := Lib.hid hT9)
                          go_meet
                          exact by rw [e.out]; exact hT9.out
                        ·
                          have h2 : decide (0 ≤ lm) = false := decide_eq_false h
                          have e : L2 ++ limL lm = L2 := by rw [limL, if_neg h, List.append_nil]
                          replace e := Lib.hid e
                          go_wp2_with fail
                          go_meet
                          exact by rw [e.out]; exact hT6.out
                    case rest =>
                      rename World => w8
                      rename Value => v8
                      have hT8 := hcut
                      have hLL : L2 ++ limL lm = L0 ++ tailL fs od ds lm := by rw [hL2.out, hL1.out, tailL]; simp only [List.append_assoc]
                      rw [hLL] at hT8
                      have hb8 := Lib.hid (hBW.out.trans (hT8.hb.mono hBW.out.size))
                      have hlm : (limL lm).length ≤ 2 := by unfold limL; split <;> simp
                      have hjn := hT8.join (by intro h; exact hne.out.1 (List.append_eq_nil_iff.1 h).1) (by rw [← hLL, List.length_append]; have := hn2.out; omega) hsz.out
                      replace hjn := Lib.hid hjn
                      clear hT8 hit c17 hT6
                      as_aux_lemma =>
                        go_wp2_with fail
                        refine hjn.out.mono ?_
                        rintro e w9 ⟨rfl, hb9⟩
                        have hfin2 := Lib.hid (hfin.out w9 (hb8.out.trans (hb9.mono hb8.out.size)))
                        clear hb9
                        go_wp2_with fail
                        exact hfin2.out
end Go.Proofs.YtgnoikfmhncbmaaGreatDoor
