/- The walk of Table.Valid. -/
import Derived.Test.YtgnoikfmhncbmaaGreatDoorR8
import Derived.Test.YtgnoikfmhncbmaaGreatDoorR3
set_option linter.unusedVariables false
set_option linter.unusedSimpArgs false
namespace Go.Proofs.YtgnoikfmhncbmaaGreatDoor
open Go.RowKit Go.Lib

structure TabOk (cs : List CV) : Prop where
  len : cs.length ≤ 8
  nm : ∀ k, k < cs.length → ∃ x, One (cs.getD k CV0).nm x
  df : ∀ k : Nat, k < cs.length → FindIs cs (cs.getD k CV0).nm k
  fit : ∀ k, k < cs.length → fitsP (cs.getD k CV0).ty (cs.getD k CV0).nl (cs.getD k CV0).df = 0 ∧ (cs.getD k CV0).df.tx.size ≤ 9223372036854775807
def prevS (cs : List CV) (k : Nat) : Int := if k = 0 then 1 else (cs.getD (k - 1) CV0).sc
def VerIs (ver : Int) (cs : List CV) (k : Nat) : Prop :=
  (k = 14 ∧ (ver < 1 ∨ (1 ≤ ver ∧ ver ≤ 65535 ∧ (cs.getD 0 CV0).sc ≠ 1))) ∨
  (k = 0 ∧ 1 ≤ ver ∧ ver ≤ 65535 ∧ (cs.getD 0 CV0).sc = 1 ∧ ∀ j, j < cs.length → prevS cs j ≤ (cs.getD j CV0).sc ∧ (cs.getD j CV0).sc ≤ ver)

set_option maxHeartbeats 8000000 in
set_option maxRecDepth 100000 in
theorem tabvalid_any (tn : ByteArray) (x0 : Nat) (hn : One tn x0) (ver : Int) (cs : List CV) (hok : TabOk cs) (h0 : 0 < cs.length) (kk : Nat) (hkk : VerIs ver cs kk) (ca : Option Addr) (cc : Nat) (w : World) (hr : Rd w (.slice ca cs.length cc) cs.length (cCells cs)) (hE : Env w) :
    Calls Tryz.prog 73 #[.agg #[.string tn, .int .i64 ver, .slice ca cs.length cc, .slice none 0 0, .int .u64 0, .int .u64 0]] w (RPost w (.int .i64 (kk : Nat))) := by
  generalize hpost : RPost w (.int .i64 (kk : Nat)) = post
  replace hpost := Lib.hid hpost
  obtain ⟨W, hW⟩ : ∃ W, W = w.alloc (.cells #[.string tn, .int .i64 ver, .slice ca cs.length cc, .slice none 0 0, .int .u64 0, .int .u64 0] 59) := ⟨_, rfl⟩
  have hT : Has W w.heap.size [.string tn, .int .i64 ver, .slice ca cs.length cc, .slice none 0 0, .int .u64 0, .int .u64 0] 59 := by rw [hW]; exact Has.new w _ _
  have hBW : Below w.heap.size w W := by rw [hW]; exact (Below.refl _ _).alloc (Nat.le_refl _) _
  have hrW := hr.kept hBW
  have hEW := hE.below hBW
  have hfin : ∀ (k : Nat) w', k = kk → Below W.heap.size W w' → post (.returned (.int .i64 (k : Int))) w' := by
    intro k w' hk hb
    rw [← hpost.out, hk]
    exact ⟨rfl, hBW.trans (hb.mono hBW.size)⟩
  have hnm := fun w => named_one tn x0 hn w
  have hcs8 := hok.len
  have hns := hok.nm
  have hfs := hok.df
  have hfit := hok.fit
  have hfind := fun s r hF w hr => find_any tn ver cs ca cc s r hF w hr (by omega)
  obtain ⟨n, hnn⟩ : ∃ n, n = cs.length := ⟨_, rfl⟩
  rw [← hnn] at hcs8 h0 hT hrW hfind hns hfs hfit
  obtain ⟨ba, oa, cca, eca, _⟩ := hrW.cells h0
  simp only [Value.slice.injEq, true_and] at eca
  obtain ⟨eca1, eca2⟩ := eca
  subst eca1
  rw [← hnn] at hW
  have hrW' : Rd W (.slice (some ⟨ba, oa, none⟩) cs.length cc) cs.length (cCells cs) := by rw [← hnn]; exact hrW
  replace hrW := hrW'
  clear hrW' eca2 hr hE hBW
  have t0 := hT.cell (o := 0) rfl
  have t1 := hT.cell (o := 1) rfl
  have t2 := hT.cell (o := 2) rfl
  have t3 := hT.cell (o := 3) rfl
  have t4 := hT.cell (o := 4) rfl
  have t5 := hT.cell (o := 5) rfl
  replace hnn := Lib.hid hnn
  replace hW := Lib.hid hW
  replace hfin := Lib.hid hfin
  replace hnm := Lib.hid hnm
  replace hns := Lib.hid hns
  replace hfs := Lib.hid hfs
  replace hfit := Lib.hid hfit
  replace hfind := Lib.hid hfind
  replace hkk := Lib.hid hkk
  go_enter Tryz.func73, Tryz.ntmps73
  go_upto_region 1 with fail
  rw [hnn.out.symm, ← hW.out]
  go_upto_block 0 with (first | (go_at_call 90; refine (hnm.out _).mono ?_; rintro e w1 ⟨rfl, rfl⟩) | fail)
  go_cut [2] (fun p wx => Below W.heap.size W wx)
  case first =>
    clear t0 t1 t2 t3 t4 t5
    go_wp2_with fail
    go_loopw [23] (fun i wr => ∃ k : Nat, k ≤ n ∧ i = .int .i64 k ∧ Below W.heap.size W wr) (fun i _ => n - (RowKit.intOf i).toNat)
    case atStart => exact ⟨0, by omega, rfl, Below.refl _ _⟩
    case round =>
      obtain ⟨k, hk, rfl, hB⟩ := hrel
      by_cases hlt : k < n
      · obtain ⟨x, hx⟩ := hns.out k hlt
        have hlI : (k : Int) < n := by omega
        obtain ⟨bl, ol, cl, ea, fa⟩ := (hrW.kept hB).col (k := k) (by have := hnn.out; omega)
        simp only [Value.slice.injEq, true_and] at ea
        obtain ⟨ea1, hcap⟩ := ea
        simp only [Option.some.injEq, Addr.mk.injEq, and_true] at ea1
        obtain ⟨eab, eao⟩ := ea1
        subst eab eao
        replace hcap := Lib.hid hcap
        have hc := fun j v hj => fa j v hj
        generalize cs.getD k CV0 = c at *
        obtain ⟨nm, ty, nl, sc, ⟨dty, dnl, dn, dtx, db⟩⟩ := c
        have c0 : wr.cell? ⟨ba, oa + k * 9, none⟩ = _ := hc 0 _ rfl
        have c1 := hc 1 _ rfl
        have c2 := hc 2 _ rfl
        have c3 := hc 3 _ rfl
        have c4 := hc 4 _ rfl
        have c5 := hc 5 _ rfl
        have c6 := hc 6 _ rfl
        have c7 := hc 7 _ rfl
        have c8 := hc 8 _ rfl
        have hNN := Has.new wr [.string nm, .int .u8 (ty : Int), .bool nl, .int .i64 sc, .int .u8 (dty : Int), .bool dnl, .int .i64 dn, .string dtx, .bool db] 108
        have n0 := hNN.cell (o := 0) rfl
        have n1 := hNN.cell (o := 1) rfl
        have n2 := hNN.cell (o := 2) rfl
        have n3 := hNN.cell (o := 3) rfl
        have n4 := hNN.cell (o := 4) rfl
        have n5 := hNN.cell (o := 5) rfl
        have n6 := hNN.cell (o := 6) rfl
        have n7 := hNN.cell (o := 7) rfl
        have n8 := hNN.cell (o := 8) rfl
        have hBn : Below W.heap.size W (wr.alloc (.cells #[.string nm, .int .u8 (ty : Int), .bool nl, .int .i64 sc, .int .u8 (dty : Int), .bool dnl, .int .i64 dn, .string dtx, .bool db] 108)) := hB.alloc hB.size _
        have hnx := fun w => named_one nm x hx w
        replace hnx := Lib.hid hnx
        replace hBn := Lib.hid hBn
        clear hc fa hB hNN hx
        go_wp2_with (go_at_call 90; refine (hnx.out _).mono ?_; rintro e w1 ⟨rfl, rfl⟩)
        go_roundw
        case rel => exact ⟨k + 1, by omega, by go_num, hBn.out⟩
        case measure => simp [RowKit.intOf]; omega
      · have hkI : ¬ (k : Int) < n := by omega
        replace hB := Lib.hid hB
        go_wp2_with fail
        go_meet
        exact hB.out
  case rest =>
    rename World => W1
    have hB1 := hcut
    have hT1 := hT.only (Only.of_below hB1) (Nat.not_le.2 hT.lt)
    have t0a := hT1.cell (o := 0) rfl
    have t1a := hT1.cell (o := 1) rfl
    have t2a := hT1.cell (o := 2) rfl
    have t3a := hT1.cell (o := 3) rfl
    have t4a := hT1.cell (o := 4) rfl
    have t5a := hT1.cell (o := 5) rfl
    have n0I : ((n : Int) == 0) = false := by rw [beq_eq_false_iff_ne]; omega
    have n8I : ¬ (n : Int) > 8 := by omega
    replace hB1 := Lib.hid hB1
    clear hcut t0 t1 t2 t3 t4 t5
    go_upto_block 2 with fail
    go_cut [2] (fun p wx => Below W.heap.size W wx)
    case first =>
      go_wp2_with fail
      go_loopw [51] (fun i wr => ∃ k : Nat, k ≤ n ∧ i = .int .i64 k ∧ Below W.heap.size W wr) (fun i _ => n - (RowKit.intOf i).toNat)
      case atStart => exact ⟨0, by omega, rfl, hB1.out⟩
      case round =>
        clear t0a t1a t2a t3a t4a t5a
        obtain ⟨k, hk, rfl, hB⟩ := hrel
        by_cases hlt : k < n
        · have hF := hfs.out k hlt
          have hlI : (k : Int) < n := by omega
          obtain ⟨bl, ol, cl, ea, fa⟩ := (hrW.kept hB).col (k := k) (by have := hnn.out; omega)
          simp only [Value.slice.injEq, true_and] at ea
          obtain ⟨ea1, hcap⟩ := ea
          simp only [Option.some.injEq, Addr.mk.injEq, and_true] at ea1
          obtain ⟨eab, eao⟩ := ea1
          subst eab eao
          replace hcap := Lib.hid hcap
          have hc := fun j v hj => fa j v hj
          generalize cs.getD k CV0 = c at *
          obtain ⟨nm, ty, nl, sc, ⟨dty, dnl, dn, dtx, db⟩⟩ := c
          have c0 : wr.cell? ⟨ba, oa + k * 9, none⟩ = _ := hc 0 _ rfl
          have c1 := hc 1 _ rfl
          have c2 := hc 2 _ rfl
          have c3 := hc 3 _ rfl
          have c4 := hc 4 _ rfl
          have c5 := hc 5 _ rfl
          have c6 := hc 6 _ rfl
          have c7 := hc 7 _ rfl
          have c8 := hc 8 _ rfl
          have hNN := Has.new wr [.string nm, .int .u8 (ty : Int), .bool nl, .int .i64 sc, .int .u8 (dty : Int), .bool dnl, .int .i64 dn, .string dtx, .bool db] 108
          have n0 := hNN.cell (o := 0) rfl
          have n1 := hNN.cell (o := 1) rfl
          have n2 := hNN.cell (o := 2) rfl
          have n3 := hNN.cell (o := 3) rfl
          have n4 := hNN.cell (o := 4) rfl
          have n5 := hNN.cell (o := 5) rfl
          have n6 := hNN.cell (o := 6) rfl
          have n7 := hNN.cell (o := 7) rfl
          have n8 := hNN.cell (o := 8) rfl
          have hBn : Below W.heap.size W (wr.alloc (.cells #[.string nm, .int .u8 (ty : Int), .bool nl, .int .i64 sc, .int .u8 (dty : Int), .bool dnl, .int .i64 dn, .string dtx, .bool db] 108)) := hB.alloc hB.size _
          have hTn := (hT.only (Only.of_below hB) (Nat.not_le.2 hT.lt)).alloc (.cells #[.string nm, .int .u8 (ty : Int), .bool nl, .int .i64 sc, .int .u8 (dty : Int), .bool dnl, .int .i64 dn, .string dtx, .bool db] 108)
          have t0n := hTn.cell (o := 0) rfl
          have t1n := hTn.cell (o := 1) rfl
          have t2n := hTn.cell (o := 2) rfl
          have t3n := hTn.cell (o := 3) rfl
          have t4n := hTn.cell (o := 4) rfl
          have t5n := hTn.cell (o := 5) rfl
          have hrn := hrW.kept hBn
          rw [← hnn.out] at hrn
          have hfi := hfind.out nm k hF _ hrn
          clear hrn
          replace hfi := Lib.hid hfi
          replace hBn := Lib.hid hBn
          clear hc fa hB hNN hF hTn
          go_wp2_with fail
          refine hfi.out.mono ?_
          rintro e w1 ⟨rfl, hBf⟩
          have hBo := hBn.out.trans (hBf.mono hBn.out.size)
          replace hBo := Lib.hid hBo
          clear hBf n0 n1 n2 n3 n4 n5 n6 n7 n8 t0n t1n t2n t3n t4n t5n c0 c1 c2 c3 c4 c5 c6 c7 c8
          go_wp2_with fail
          go_roundw
          case rel => exact ⟨k + 1, by omega, by go_num, hBo.out⟩
          case measure => simp [RowKit.intOf]; omega
        · have hkI : ¬ (k : Int) < n := by omega
          replace hB := Lib.hid hB
          go_wp2_with fail
          go_meet
          exact hB.out
    case rest =>
      rename World => W2
      have hB2 := hcut
      have hT2 := hT.only (Only.of_below hB2) (Nat.not_le.2 hT.lt)
      have t0b := hT2.cell (o := 0) rfl
      have t1b := hT2.cell (o := 1) rfl
      have t2b := hT2.cell (o := 2) rfl
      have t3b := hT2.cell (o := 3) rfl
      have t4b := hT2.cell (o := 4) rfl
      have t5b := hT2.cell (o := 5) rfl
      replace hB2 := Lib.hid hB2
      clear hcut t0a t1a t2a t3a t4a t5a hB1 hT1
      go_upto_block 4 with fail
      go_cut [2] (fun p wx => W2 = wx)
      case first =>
        go_wp2_with fail
        go_loopw [66] (fun i wr => i = .int .i64 0 ∧ W2 = wr) (fun i _ => 0)
        case atStart => exact ⟨rfl, rfl⟩
        case round =>
          obtain ⟨rfl, rfl⟩ := hrel
          go_wp2_with fail
          go_meet
          rfl
      case rest =>
        obtain rfl := hcut
        go_upto_block 6 with fail
        go_cut [2] (fun p wx => W2 = wx)
        case first =>
          go_wp2_with fail
          go_loopw [81] (fun i wr => i = .int .i64 0 ∧ W2 = wr) (fun i _ => 0)
          case atStart => exact ⟨rfl, rfl⟩
          case round =>
            obtain ⟨rfl, rfl⟩ := hrel
            go_wp2_with fail
            go_meet
            rfl
        case rest =>
          obtain rfl := hcut
          go_upto_block 8 with fail
          go_cut [2] (fun p wx => Below W.heap.size W wx)
          case first =>
            go_wp2_with fail
            go_loopw [94] (fun i wr => ∃ k : Nat, k ≤ n ∧ i = .int .i64 k ∧ Below W.heap.size W wr) (fun i _ => n - (RowKit.intOf i).toNat)
            case atStart => exact ⟨0, by omega, rfl, hB2.out⟩
            case round =>
              clear t0b t1b t2b t3b t4b t5b
              obtain ⟨k, hk, rfl, hB⟩ := hrel
              by_cases hlt : k < n
              · have hF := hfit.out k hlt
                have hlI : (k : Int) < n := by omega
                obtain ⟨bl, ol, cl, ea, fa⟩ := (hrW.kept hB).col (k := k) (by have := hnn.out; omega)
                simp only [Value.slice.injEq, true_and] at ea
                obtain ⟨ea1, hcap⟩ := ea
                simp only [Option.some.injEq, Addr.mk.injEq, and_true] at ea1
                obtain ⟨eab, eao⟩ := ea1
                subst eab eao
                replace hcap := Lib.hid hcap
                have hc := fun j v hj => fa j v hj
                generalize cs.getD k CV0 = c at *
                obtain ⟨nm, ty, nl, sc, ⟨dty, dnl, dn, dtx, db⟩⟩ := c
                have c0 : wr.cell? ⟨ba, oa + k * 9, none⟩ = _ := hc 0 _ rfl
                have c1 := hc 1 _ rfl
                have c2 := hc 2 _ rfl
                have c3 := hc 3 _ rfl
                have c4 := hc 4 _ rfl
                have c5 := hc 5 _ rfl
                have c6 := hc 6 _ rfl
                have c7 := hc 7 _ rfl
                have c8 := hc 8 _ rfl
                have hNN := Has.new wr [.string nm, .int .u8 (ty : Int), .bool nl, .int .i64 sc, .int .u8 (dty : Int), .bool dnl, .int .i64 dn, .string dtx, .bool db] 108
                have n0 := hNN.cell (o := 0) rfl
                have n1 := hNN.cell (o := 1) rfl
                have n2 := hNN.cell (o := 2) rfl
                have n3 := hNN.cell (o := 3) rfl
                have n4 := hNN.cell (o := 4) rfl
                have n5 := hNN.cell (o := 5) rfl
                have n6 := hNN.cell (o := 6) rfl
                have n7 := hNN.cell (o := 7) rfl
                have n8 := hNN.cell (o := 8) rfl
                have hBn : Below W.heap.size W (wr.alloc (.cells #[.string nm, .int .u8 (ty : Int), .bool nl, .int .i64 sc, .int .u8 (dty : Int), .bool dnl, .int .i64 dn, .string dtx, .bool db] 108)) := hB.alloc hB.size _
                have hfi := fits_any nm ty nl sc ⟨dty, dnl, dn, dtx, db⟩ dty dnl dn dtx db hF.2 _ (hEW.below hBn)
                have hF1 := hF.1
                simp only at hF1
                rw [hF1] at hfi
                replace hF1 := Lib.hid hF1
                replace hfi := Lib.hid hfi
                replace hBn := Lib.hid hBn
                clear hc fa hB hNN hF
                go_wp2_with fail
                refine hfi.out.mono ?_
                rintro e w1 ⟨rfl, hBf⟩
                have hBo := hBn.out.trans (hBf.mono hBn.out.size)
                replace hBo := Lib.hid hBo
                clear hBf n0 n1 n2 n3 n4 n5 n6 n7 n8 c0 c1 c2 c3 c4 c5 c6 c7 c8
                go_wp2_with fail
                go_roundw
                case rel => exact ⟨k + 1, by omega, by go_num, hBo.out⟩
                case measure => simp [RowKit.intOf]; omega
              · have hkI : ¬ (k : Int) < n := by omega
                replace hB := Lib.hid hB
                go_wp2_with fail
                go_meet
                exact hB.out
          case rest =>
            rename World => W3
            have hB3 := hcut
            have hT3 := hT.only (Only.of_below hB3) (Nat.not_le.2 hT.lt)
            have t0c := hT3.cell (o := 0) rfl
            have t1c := hT3.cell (o := 1) rfl
            have t2c := hT3.cell (o := 2) rfl
            have t3c := hT3.cell (o := 3) rfl
            have t4c := hT3.cell (o := 4) rfl
            have t5c := hT3.cell (o := 5) rfl
            obtain ⟨bl, ol, cl, ea, fa⟩ := (hrW.kept hB3).col (k := 0) (by have := hnn.out; omega)
            simp only [Value.slice.injEq, true_and] at ea
            obtain ⟨ea1, hcap⟩ := ea
            simp only [Option.some.injEq, Addr.mk.injEq, and_true] at ea1
            obtain ⟨eab, eao⟩ := ea1
            subst eab eao
            replace hcap := Lib.hid hcap
            have s3 : W3.cell? ⟨ba, oa + 3, none⟩ = some (.int .i64 (cs.getD 0 CV0).sc) := by have := fa 3 _ rfl; simpa using this
            have hkk' := hkk.out
            obtain ⟨s0, hs0⟩ : ∃ s, s = (cs.getD 0 CV0).sc := ⟨_, rfl⟩
            unfold VerIs at hkk'
            rw [← hs0] at s3 hkk'
            replace hs0 := Lib.hid hs0
            clear fa hT3 hcut
            rcases hkk' with ⟨h14, hbad⟩ | ⟨h00, v1, v2, hs1, hall⟩
            · have hf := hfin.out 14 W3 h14.symm hB3
              replace hf := Lib.hid hf
              replace h14 := Lib.hid h14
              clear hfin
              rcases hbad with hb | ⟨hb1, hb2, hb3⟩
              · go_wp2_with fail
                first | exact hf.out | (go_ret; exact hf.out)
              · have hb4 : ¬ ver < 1 := by omega
                have hb5 : ¬ ver > 65535 := by omega
                have hb6 : (s0 != 1) = true := by simp [hb3]
                clear hb3
                go_wp2_with fail
                first | exact hf.out | (go_ret; exact hf.out)
            · have hb4 : ¬ ver < 1 := by omega
              have hb5 : ¬ ver > 65535 := by omega
              have hb6 : (s0 != 1) = false := by simp [hs1]
              have hall2 := fun k (hk : k < n) => hall k (by have := hnn.out; omega)
              replace hs1 := Lib.hid hs1
              replace hall2 := Lib.hid hall2
              replace h00 := Lib.hid h00
              clear hall
              go_upto_block 10 with fail
              go_cut [2] (fun p wx => Below W.heap.size W wx)
              case first =>
                go_wp2_with fail
                go_loopw [13, 123] (fun x i wr => ∃ k : Nat, k ≤ n ∧ i = .int .i64 k ∧ x = .int .i64 (prevS cs k) ∧ Below W.heap.size W wr) (fun _ i _ => n - (RowKit.intOf i).toNat)
                case atStart => exact ⟨0, by omega, rfl, rfl, hB3⟩
                case round =>
                  clear t0c t1c t2c t3c t4c t5c s3
                  obtain ⟨k, hk, rfl, rfl, hB⟩ := hrel
                  by_cases hlt : k < n
                  · have hps : prevS cs (k + 1) = (cs.getD k CV0).sc := by unfold prevS; rw [if_neg (by omega), Nat.add_sub_cancel]
                    obtain ⟨hl1, hl2⟩ := hall2.out k hlt
                    have hlI : (k : Int) < n := by omega
                    obtain ⟨bl, ol, cl, ea, fa⟩ := (hrW.kept hB).col (k := k) (by have := hnn.out; omega)
                    simp only [Value.slice.injEq, true_and] at ea
                    obtain ⟨ea1, hcap⟩ := ea
                    simp only [Option.some.injEq, Addr.mk.injEq, and_true] at ea1
                    obtain ⟨eab, eao⟩ := ea1
                    subst eab eao
                    replace hcap := Lib.hid hcap
                    have hc := fun j v hj => fa j v hj
                    generalize cs.getD k CV0 = c at *
                    generalize prevS cs k = pv at *
                    obtain ⟨nm, ty, nl, sc, ⟨dty, dnl, dn, dtx, db⟩⟩ := c
                    have c0 : wr.cell? ⟨ba, oa + k * 9, none⟩ = _ := hc 0 _ rfl
                    have c1 := hc 1 _ rfl
                    have c2 := hc 2 _ rfl
                    have c3 := hc 3 _ rfl
                    have c4 := hc 4 _ rfl
                    have c5 := hc 5 _ rfl
                    have c6 := hc 6 _ rfl
                    have c7 := hc 7 _ rfl
                    have c8 := hc 8 _ rfl
                    have hNN := Has.new wr [.string nm, .int .u8 (ty : Int), .bool nl, .int .i64 sc, .int .u8 (dty : Int), .bool dnl, .int .i64 dn, .string dtx, .bool db] 108
                    have n0 := hNN.cell (o := 0) rfl
                    have n1 := hNN.cell (o := 1) rfl
                    have n2 := hNN.cell (o := 2) rfl
                    have n3 := hNN.cell (o := 3) rfl
                    have n4 := hNN.cell (o := 4) rfl
                    have n5 := hNN.cell (o := 5) rfl
                    have n6 := hNN.cell (o := 6) rfl
                    have n7 := hNN.cell (o := 7) rfl
                    have n8 := hNN.cell (o := 8) rfl
                    have hBn : Below W.heap.size W (wr.alloc (.cells #[.string nm, .int .u8 (ty : Int), .bool nl, .int .i64 sc, .int .u8 (dty : Int), .bool dnl, .int .i64 dn, .string dtx, .bool db] 108)) := hB.alloc hB.size _
                    have hTn := (hT.only (Only.of_below hB) (Nat.not_le.2 hT.lt)).alloc (.cells #[.string nm, .int .u8 (ty : Int), .bool nl, .int .i64 sc, .int .u8 (dty : Int), .bool dnl, .int .i64 dn, .string dtx, .bool db] 108)
                    have t0n := hTn.cell (o := 0) rfl
                    have t1n := hTn.cell (o := 1) rfl
                    have t2n := hTn.cell (o := 2) rfl
                    have t3n := hTn.cell (o := 3) rfl
                    have t4n := hTn.cell (o := 4) rfl
                    have t5n := hTn.cell (o := 5) rfl
                    simp only at hl1 hl2 hps
                    have i1 : ¬ sc < pv := by omega
                    have i2 : ¬ sc > ver := by omega
                    replace hBn := Lib.hid hBn
                    replace hps := Lib.hid hps
                    clear hc fa hB hNN hTn
                    go_wp2_with fail
                    go_roundw
                    case rel => exact ⟨k + 1, by omega, by go_num, by rw [hps.out], hBn.out⟩
                    case measure => simp [RowKit.intOf]; omega
                  · have hkI : ¬ (k : Int) < n := by omega
                    replace hB := Lib.hid hB
                    go_wp2_with fail
                    go_meet
                    exact hB.out
              case rest =>
                rename World => W4
                have hf := hfin.out 0 W4 h00.out.symm hcut
                replace hf := Lib.hid hf
                clear hfin hcut
                go_wp2_with fail
                first | exact hf.out | (go_ret; exact hf.out)
end Go.Proofs.YtgnoikfmhncbmaaGreatDoor
