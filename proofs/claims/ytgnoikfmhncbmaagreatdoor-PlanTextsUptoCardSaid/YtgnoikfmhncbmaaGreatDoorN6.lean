/- Walks: the reference's Text of a plan. -/
import Derived.Test.YtgnoikfmhncbmaaGreatDoorN4x
set_option linter.unusedVariables false
set_option linter.unusedSimpArgs false
namespace Go.Proofs.YtgnoikfmhncbmaaGreatDoor
open Go.RowKit Go.Lib
theorem join_app {L : List (List UInt8)} (h : L ≠ []) (N : List (List UInt8)) : join (L ++ N) [32] = join L [32] ++ joinTail [32] N := by
  cases L with
  | nil => exact absurd rfl h
  | cons x r => rw [List.cons_append, join_cons, join_cons, joinTail, joinTail, joinTail, List.map_append, List.flatten_append, List.append_assoc]
theorem joinTail_app (a b : List (List UInt8)) : joinTail [32] (a ++ b) = joinTail [32] a ++ joinTail [32] b := by rw [joinTail, joinTail, joinTail, List.map_append, List.flatten_append]
set_option maxHeartbeats 8000000 in
set_option maxRecDepth 100000 in
theorem rtext_p1 {w : World} (col : ByteArray) (ta : Nat) (na : Bool) (ia : Int) (xa : ByteArray) (ba1 : Bool) (tb : Nat) (nb : Bool) (ib : Int) (xb : ByteArray) (bb : Bool) (fa fb : Nat) (hfa : fa < 4294967296) (hfb : fb < 4294967296) (fs : Bool) (od : ByteArray) (ds : Bool) (lm : Int) (hl0 : -9223372036854775808 ≤ lm) (hl1 : lm ≤ 9223372036854775807)
    (hsa : xa.size ≤ 9223372036854775807) (hsb : xb.size ≤ 9223372036854775807) (hsz : (join (pathL 1 col ⟨ta, na, ia, xa, ba1⟩ ⟨tb, nb, ib, xb, bb⟩ fa fb ++ tailL fs od ds lm) [32]).length ≤ 140737488355328) :
    Calls Tryz.prog 16 #[.agg #[.int .i64 1, .string col, .int .i64 (ta : Int), .bool na, .int .i64 ia, .string xa, .bool ba1, .int .i64 (tb : Int), .bool nb, .int .i64 ib, .string xb, .bool bb, .int .u32 (fa : Int), .int .u32 (fb : Int), .string od, .bool ds, .int .i64 lm], .bool fs] w (RPost w (.string (ba (join (pathL 1 col ⟨ta, na, ia, xa, ba1⟩ ⟨tb, nb, ib, xb, bb⟩ fa fb ++ tailL fs od ds lm) [32])))) := by
  generalize hpost : RPost w (.string (ba (join (pathL 1 col ⟨ta, na, ia, xa, ba1⟩ ⟨tb, nb, ib, xb, bb⟩ fa fb ++ tailL fs od ds lm) [32]))) = post
  have hfin : ∀ w', Below w.heap.size w w' → post (.returned (.string (ba (join (pathL 1 col ⟨ta, na, ia, xa, ba1⟩ ⟨tb, nb, ib, xb, bb⟩ fa fb ++ tailL fs od ds lm) [32])))) w' := fun w' hb => by rw [← hpost]; exact ⟨rfl, hb⟩
  replace hpost := Lib.hid hpost
  replace hfin := Lib.hid hfin
  replace hsz := Lib.hid hsz
  obtain ⟨W, hW⟩ : ∃ W, W = w.alloc (.cells #[.int .i64 1, .string col, .int .i64 (ta : Int), .bool na, .int .i64 ia, .string xa, .bool ba1, .int .i64 (tb : Int), .bool nb, .int .i64 ib, .string xb, .bool bb, .int .u32 (fa : Int), .int .u32 (fb : Int), .string od, .bool ds, .int .i64 lm] 48) := ⟨_, rfl⟩
  have hP : Has W w.heap.size [.int .i64 1, .string col, .int .i64 (ta : Int), .bool na, .int .i64 ia, .string xa, .bool ba1, .int .i64 (tb : Int), .bool nb, .int .i64 ib, .string xb, .bool bb, .int .u32 (fa : Int), .int .u32 (fb : Int), .string od, .bool ds, .int .i64 lm] 48 := by rw [hW]; exact Has.new w _ _
  have hBW : Below w.heap.size w W := by rw [hW]; exact (Below.refl _ _).alloc (Nat.le_refl _) _
  have kP := Lib.hid (fun wx (hb : Below W.heap.size W wx) => hP.only (Only.of_below hb) (Nat.not_le.2 hP.lt))
  replace hBW := Lib.hid hBW
  replace hW := Lib.hid hW.symm
  clear hP
  have hk := kP.out W (Below.refl _ _)
  have c0 := hk.cell (o := 0) rfl
  clear hk
  go_enter Tryz.func16, Tryz.ntmps16
  go_upto_region 1 with fail
  rw [hW.out]
  go_upto_region 10 with fail
  have hb2 := Below.refl W.heap.size W
  obtain ⟨w2, hw2⟩ : ∃ w2, w2 = W := ⟨_, rfl⟩
  rw [← hw2]
  have hb2 : Below W.heap.size W w2 := by rw [hw2]; exact Below.refl _ _
  clear hw2
  obtain ⟨x0, hx0⟩ : ∃ x0, x0 = ba (join (pathL 1 col ⟨ta, na, ia, xa, ba1⟩ ⟨tb, nb, ib, xb, bb⟩ fa fb) [32]) := ⟨_, rfl⟩
  rw [show (.string (⟨#[102, 117, 108, 108]⟩ : ByteArray) : Value) = .string x0 from by rw [hx0]; rfl]
  obtain ⟨L0, hL0⟩ : ∃ L0, L0 = pathL 1 col ⟨ta, na, ia, xa, ba1⟩ ⟨tb, nb, ib, xb, bb⟩ fa fb := ⟨_, rfl⟩
  have hne : L0 ≠ [] := by rw [hL0]; intro h; cases h
  rw [← hL0] at hx0
  replace hfin := hfin.out
  rw [← hL0] at hfin
  replace hfin := Lib.hid hfin
  replace hsz := hsz.out
  rw [← hL0] at hsz
  have hJ : ∀ N, join (L0 ++ N) [32] = join L0 [32] ++ joinTail [32] N := fun N => join_app hne N
  have hz0 : x0.size + (joinTail [32] (filL fs)).length + (joinTail [32] (ordL od ds)).length + (joinTail [32] (limL lm)).length ≤ 140737488355328 := by
    rw [hJ, tailL, joinTail_app, joinTail_app] at hsz
    simp only [List.length_append] at hsz
    rw [hx0, ba, mk_size]
    omega
  clear hL0 c0 hsz hsa hsb hfa hfb
  replace hx0 := Lib.hid hx0
  replace hne := Lib.hid hne
  replace hb2 := Lib.hid hb2
  replace hJ := Lib.hid hJ
  replace hz0 := Lib.hid hz0
  obtain ⟨x1, hx1⟩ : ∃ x1, x1 = ba (join (L0 ++ filL fs) [32]) := ⟨_, rfl⟩
  replace hx1 := Lib.hid hx1
  go_upto_if 38 with fail
  go_cut [5] (fun q wx => q = .string x1 ∧ w2 = wx)
  case first =>
    as_aux_lemma =>
      cases fs with
      | false => 
        have e : x1 = x0 := by rw [hx1.out, hx0.out, show L0 ++ filL false = L0 from List.append_nil _]
        replace e := Lib.hid e
        go_wp2_with fail
        go_meet
        exact ⟨by rw [e.out], rfl⟩
      | true =>
        have z1 : ¬ 9223372036854775807 < x0.size + (⟨#[32, 102, 105, 108, 116, 101, 114]⟩ : ByteArray).size := by have := hz0.out; have e : (⟨#[32, 102, 105, 108, 116, 101, 114]⟩ : ByteArray).size = 7 := rfl; omega
        have e : x0 ++ (⟨#[32, 102, 105, 108, 116, 101, 114]⟩ : ByteArray) = x1 := by
          rw [hx1.out, hx0.out, hJ.out]
          exact ba_app (join L0 [32]) [32, 102, 105, 108, 116, 101, 114]
        replace e := Lib.hid e
        go_wp2_with fail
        go_meet
        exact ⟨by rw [e.out], rfl⟩
  case rest =>
    rename World => w3
    obtain ⟨rfl, rfl⟩ := hcut
    as_aux_lemma =>
      have hk := kP.out w2 hb2.out
      have c14 := hk.cell (o := 14) rfl
      clear hk
      have hs1 : x1.size = x0.size + (joinTail [32] (filL fs)).length := by rw [hx1.out, hx0.out, hJ.out]; simp only [ba, mk_size, List.length_append]
      replace hs1 := Lib.hid hs1
      obtain ⟨oz, hoz⟩ : ∃ oz, (!od.toList.isEmpty) = oz := ⟨_, rfl⟩
      have hez : od = ⟨#[]⟩ ↔ oz = false := by
        rw [← hoz]
        constructor
        · intro h; rw [h, ByteArray.toList_eq]; rfl
        · intro h; rw [ByteArray.toList_eq] at h; exact ba_eq (by simpa using h)
      replace hez := Lib.hid hez
      obtain ⟨x2, hx2⟩ : ∃ x2, x2 = ba (join (L0 ++ filL fs ++ ordL od ds) [32]) := ⟨_, rfl⟩
      have hJ2 : x2 = x1 ++ ba (joinTail [32] (ordL od ds)) := by rw [hx2, hx1.out, join_app (by intro h; exact hne.out (List.append_eq_nil_iff.1 h).1), ba_app]
      replace hx2 := Lib.hid hx2
      replace hJ2 := Lib.hid hJ2
      go_upto_region 12 with fail
      go_cut [43] (fun q wx => q = .bool oz ∧ w2 = wx)
      case first => as_aux_lemma =>
        go_wp2_with fail
        go_meet
        exact ⟨rfl, rfl⟩
      case rest =>
        rename World => w4
        obtain ⟨rfl, rfl⟩ := hcut
        replace hoz := Lib.hid hoz
        have hk := kP.out w2 hb2.out
        have c15 := hk.cell (o := 15) rfl
        clear hk
        go_upto_if 43 with fail
        go_cut [5] (fun q wx => q = .string x2 ∧ w2 = wx)
        case first =>
          as_aux_lemma =>
            cases oz with
            | false =>
              have e : x2 = x1 := by rw [hx2.out, hx1.out, ordL, if_pos (hez.out.2 rfl), List.append_nil]
              replace e := Lib.hid e
              go_wp2_with fail
              go_meet
              exact ⟨by rw [e.out], rfl⟩
            | true =>
              have e : ordL od ds = [orderW, od.data.toList] ++ dscL ds := by rw [ordL, if_neg (fun h => by have := hez.out.1 h; cases this)]
              have hjt : joinTail [32] (ordL od ds) = ([32, 111, 114, 100, 101, 114, 32] ++ od.data.toList) ++ joinTail [32] (dscL ds) := by rw [e]; rfl
              have hzz : x1.size + (7 + od.size) + (joinTail [32] (dscL ds)).length ≤ 140737488355328 := by
                have h := hz0.out
                have h1 := hs1.out
                rw [hjt] at h
                have : od.data.toList.length = od.size := by simp
                simp only [List.length_append, List.length_cons, List.length_nil] at h
                omega
              have es : ((⟨#[32, 111, 114, 100, 101, 114, 32]⟩ : ByteArray) ++ od).size = 7 + od.size := by rw [ByteArray.size_append]; rfl
              have z1 : ¬ 9223372036854775807 < (⟨#[32, 111, 114, 100, 101, 114, 32]⟩ : ByteArray).size + od.size := by have e : (⟨#[32, 111, 114, 100, 101, 114, 32]⟩ : ByteArray).size = 7 := rfl; omega
              have z2 : ¬ 9223372036854775807 < x1.size + ((⟨#[32, 111, 114, 100, 101, 114, 32]⟩ : ByteArray) ++ od).size := by rw [es]; omega
              have e5 : ((⟨#[32, 111, 114, 100, 101, 114, 32]⟩ : ByteArray) ++ od) = ba ([32, 111, 114, 100, 101, 114, 32] ++ od.data.toList) := by have h := ba_app [32, 111, 114, 100, 101, 114, 32] od.data.toList; rw [ba_of] at h; exact h
              cases ds with
              | false =>
                have ee : x1 ++ ((⟨#[32, 111, 114, 100, 101, 114, 32]⟩ : ByteArray) ++ od) = x2 := by
                  rw [hJ2.out, hjt, e5]
                  congr 2
                  exact (List.append_nil _).symm
                clear hjt e5 e es hzz
                replace ee := Lib.hid ee
                go_wp2_with fail
                go_meet
                exact ⟨by rw [ee.out], rfl⟩
              | true =>
                have z3 : ¬ 9223372036854775807 < (x1 ++ ((⟨#[32, 111, 114, 100, 101, 114, 32]⟩ : ByteArray) ++ od)).size + (⟨#[32, 100, 101, 115, 99]⟩ : ByteArray).size := by
                  have e : (⟨#[32, 100, 101, 115, 99]⟩ : ByteArray).size = 5 := rfl
                  have e2 : (joinTail [32] (dscL true)).length = 5 := rfl
                  rw [ByteArray.size_append, es]; omega
                have ee : x1 ++ ((⟨#[32, 111, 114, 100, 101, 114, 32]⟩ : ByteArray) ++ od) ++ (⟨#[32, 100, 101, 115, 99]⟩ : ByteArray) = x2 := by
                  rw [hJ2.out, hjt, e5]
                  conv => lhs; rw [← ba_of x1]
                  conv => rhs; rw [← ba_of x1]
                  rw [ba_app, ba_app]
                  rw [show (⟨#[32, 100, 101, 115, 99]⟩ : ByteArray) = ba [32, 100, 101, 115, 99] from rfl, ba_app]
                  congr 1
                  rw [List.append_assoc]
                  rfl
                clear hjt e5 e es hzz
                replace ee := Lib.hid ee
                go_wp2_with fail
                go_meet
                exact ⟨by rw [ee.out], rfl⟩
        case rest =>
          rename World => w5
          obtain ⟨rfl, rfl⟩ := hcut
          clear c14 c15 hez hoz
          as_aux_lemma =>
            have hk := kP.out w2 hb2.out
            have c16 := hk.cell (o := 16) rfl
            clear hk
            obtain ⟨x3, hx3⟩ : ∃ x3, x3 = ba (join (L0 ++ filL fs ++ ordL od ds ++ limL lm) [32]) := ⟨_, rfl⟩
            have hJ3 : x3 = x2 ++ ba (joinTail [32] (limL lm)) := by rw [hx3, hx2.out, join_app (by intro h; exact hne.out (List.append_eq_nil_iff.1 (List.append_eq_nil_iff.1 h).1).1), ba_app]
            have hs2 : x2.size = x1.size + (joinTail [32] (ordL od ds)).length := by rw [hJ2.out, ByteArray.size_append]; simp only [ba, mk_size]
            replace hx3 := Lib.hid hx3
            replace hJ3 := Lib.hid hJ3
            replace hs2 := Lib.hid hs2
            go_upto_region 16 with fail
            go_cut [55] (fun q wx => q = .bool (decide (0 ≤ lm)) ∧ w2 = wx)
            case first => as_aux_lemma =>
              by_cases h : 0 ≤ lm
              · have h2 : decide (0 ≤ lm) = true := decide_eq_true h
                have h3 : lm ≥ 0 := h
                go_wp2_with fail
                go_meet
                exact ⟨by rw [h2], rfl⟩
              · have h2 : decide (0 ≤ lm) = false := decide_eq_false h
                have h3 : ¬ lm ≥ 0 := h
                go_wp2_with fail
                go_meet
                exact ⟨by rw [h2], rfl⟩
            case rest =>
              rename World => w6
              obtain ⟨rfl, rfl⟩ := hcut
              go_upto_if 55 with fail
              go_cut [5] (fun q wx => q = .string x3 ∧ Below W.heap.size W wx)
              case first =>
                as_aux_lemma =>
                  by_cases h : 0 ≤ lm
                  ·
                    have h2 : decide (0 ≤ lm) = true := decide_eq_true h
                    obtain ⟨n, rfl⟩ : ∃ n : Nat, lm = n := ⟨lm.toNat, by omega⟩
                    have hn := rnum_pos63 n (by omega) w2
                    have e : limL (n : Int) = [limitW, decDigits n] := by rw [limL, if_pos h, itoa_nonneg]
                    have hzz : x2.size + (7 + (ba (decDigits n)).size) ≤ 140737488355328 := by
                      have h := hz0.out
                      have h1 := hs1.out
                      have h2 := hs2.out
                      rw [e] at h
                      have e2 : (joinTail [32] [limitW, decDigits n]).length = 7 + (decDigits n).length := by simp [joinTail, limitW]; omega
                      have e6 : (ba (decDigits n)).size = (decDigits n).length := by rw [ba, mk_size]
                      omega
                    have ee0 : x3 = x2 ++ ba ([32, 108, 105, 109, 105, 116, 32] ++ decDigits n) := by rw [hJ3.out, e]; congr 2; simp [joinTail, limitW]
                    obtain ⟨dn, hdn⟩ : ∃ dn, dn = ba (decDigits n) := ⟨_, rfl⟩
                    rw [← hdn] at hn hzz
                    have ee : x2 ++ ((⟨#[32, 108, 105, 109, 105, 116, 32]⟩ : ByteArray) ++ dn) = x3 := by rw [ee0, hdn]; exact congrArg (x2 ++ ·) (ba_app _ _)
                    have es : ((⟨#[32, 108, 105, 109, 105, 116, 32]⟩ : ByteArray) ++ dn).size = 7 + dn.size := ByteArray.size_append
                    have z1 : ¬ 9223372036854775807 < (⟨#[32, 108, 105, 109, 105, 116, 32]⟩ : ByteArray).size + dn.size := by have e : (⟨#[32, 108, 105, 109, 105, 116, 32]⟩ : ByteArray).size = 7 := rfl; omega
                    have z2 : ¬ 9223372036854775807 < x2.size + ((⟨#[32, 108, 105, 109, 105, 116, 32]⟩ : ByteArray) ++ dn).size := by rw [es]; omega
                    clear e ee0 hdn hzz es h
                    replace ee := Lib.hid ee
                    replace hn := Lib.hid hn
                    go_wp2_with fail
                    refine hn.out.mono ?_
                    rintro e w8 ⟨rfl, hb8⟩
                    have hb9 := Lib.hid (hb2.out.trans (hb8.mono hb2.out.size))
                    clear hb8 c16
                    go_wp2_with fail
                    go_meet
                    exact ⟨by rw [ee.out], hb9.out⟩
                  ·
                    have h2 : decide (0 ≤ lm) = false := decide_eq_false h
                    have e : x3 = x2 := by rw [hx3.out, hx2.out, limL, if_neg h, List.append_nil]
                    replace e := Lib.hid e
                    replace h := Lib.hid h
                    go_wp2_with fail
                    go_meet
                    exact ⟨by rw [e.out], hb2.out⟩
              case rest =>
                rename World => w8
                obtain ⟨rfl, hb8⟩ := hcut
                have hfin2 := hfin.out w8 (hBW.out.trans (hb8.mono hBW.out.size))
                rw [show L0 ++ tailL fs od ds lm = L0 ++ filL fs ++ ordL od ds ++ limL lm from by rw [tailL]; simp only [List.append_assoc], ← hx3.out] at hfin2
                replace hfin2 := Lib.hid hfin2
                clear c16 hb8
                as_aux_lemma =>
                  go_wp2_with fail
                  exact hfin2.out
set_option maxHeartbeats 8000000 in
set_option maxRecDepth 100000 in
theorem rtext_p2 {w : World} (col : ByteArray) (ta : Nat) (na : Bool) (ia : Int) (xa : ByteArray) (ba1 : Bool) (tb : Nat) (nb : Bool) (ib : Int) (xb : ByteArray) (bb : Bool) (fa fb : Nat) (hfa : fa < 4294967296) (hfb : fb < 4294967296) (fs : Bool) (od : ByteArray) (ds : Bool) (lm : Int) (hl0 : -9223372036854775808 ≤ lm) (hl1 : lm ≤ 9223372036854775807)
    (hsa : xa.size ≤ 9223372036854775807) (hsb : xb.size ≤ 9223372036854775807) (hsz : (join (pathL 2 col ⟨ta, na, ia, xa, ba1⟩ ⟨tb, nb, ib, xb, bb⟩ fa fb ++ tailL fs od ds lm) [32]).length ≤ 140737488355328) :
    Calls Tryz.prog 16 #[.agg #[.int .i64 2, .string col, .int .i64 (ta : Int), .bool na, .int .i64 ia, .string xa, .bool ba1, .int .i64 (tb : Int), .bool nb, .int .i64 ib, .string xb, .bool bb, .int .u32 (fa : Int), .int .u32 (fb : Int), .string od, .bool ds, .int .i64 lm], .bool fs] w (RPost w (.string (ba (join (pathL 2 col ⟨ta, na, ia, xa, ba1⟩ ⟨tb, nb, ib, xb, bb⟩ fa fb ++ tailL fs od ds lm) [32])))) := by
  generalize hpost : RPost w (.string (ba (join (pathL 2 col ⟨ta, na, ia, xa, ba1⟩ ⟨tb, nb, ib, xb, bb⟩ fa fb ++ tailL fs od ds lm) [32]))) = post
  have hfin : ∀ w', Below w.heap.size w w' → post (.returned (.string (ba (join (pathL 2 col ⟨ta, na, ia, xa, ba1⟩ ⟨tb, nb, ib, xb, bb⟩ fa fb ++ tailL fs od ds lm) [32])))) w' := fun w' hb => by rw [← hpost]; exact ⟨rfl, hb⟩
  replace hpost := Lib.hid hpost
  replace hfin := Lib.hid hfin
  replace hsz := Lib.hid hsz
  obtain ⟨W, hW⟩ : ∃ W, W = w.alloc (.cells #[.int .i64 2, .string col, .int .i64 (ta : Int), .bool na, .int .i64 ia, .string xa, .bool ba1, .int .i64 (tb : Int), .bool nb, .int .i64 ib, .string xb, .bool bb, .int .u32 (fa : Int), .int .u32 (fb : Int), .string od, .bool ds, .int .i64 lm] 48) := ⟨_, rfl⟩
  have hP : Has W w.heap.size [.int .i64 2, .string col, .int .i64 (ta : Int), .bool na, .int .i64 ia, .string xa, .bool ba1, .int .i64 (tb : Int), .bool nb, .int .i64 ib, .string xb, .bool bb, .int .u32 (fa : Int), .int .u32 (fb : Int), .string od, .bool ds, .int .i64 lm] 48 := by rw [hW]; exact Has.new w _ _
  have hBW : Below w.heap.size w W := by rw [hW]; exact (Below.refl _ _).alloc (Nat.le_refl _) _
  have kP := Lib.hid (fun wx (hb : Below W.heap.size W wx) => hP.only (Only.of_below hb) (Nat.not_le.2 hP.lt))
  replace hBW := Lib.hid hBW
  replace hW := Lib.hid hW.symm
  clear hP
  have hk := kP.out W (Below.refl _ _)
  have c0 := hk.cell (o := 0) rfl
  clear hk
  go_enter Tryz.func16, Tryz.ntmps16
  go_upto_region 1 with fail
  rw [hW.out]
  go_upto_block 0 with fail
  go_cut [5] (fun q wx => q = .string (ba (join (pathL 2 col ⟨ta, na, ia, xa, ba1⟩ ⟨tb, nb, ib, xb, bb⟩ fa fb) [32])) ∧ Below W.heap.size W wx)
  case first =>
    as_aux_lemma =>
      have cC : ∀ wx, Below W.heap.size W wx → wx.cell? ⟨w.heap.size, 12, none⟩ = some (.int .u32 (fa : Int)) ∧ wx.cell? ⟨w.heap.size, 13, none⟩ = some (.int .u32 (fb : Int)) := fun wx hx => ⟨(kP.out wx hx).cell (o := 12) rfl, (kP.out wx hx).cell (o := 13) rfl⟩
      have cA : ∀ wx, Below W.heap.size W wx → Calls Tryz.prog 38 #[.int .i64 (fa : Int)] wx (fun e w2 => e = .returned (.string (ba (decDigits fa))) ∧ Below W.heap.size W w2) := fun wx hx => (rnum_pos63 fa (by omega) wx).mono fun e w2 ⟨he, hb⟩ => ⟨he, hx.trans (hb.mono hx.size)⟩
      have cB : ∀ wx, Below W.heap.size W wx → Calls Tryz.prog 38 #[.int .i64 (fb : Int)] wx (fun e w2 => e = .returned (.string (ba (decDigits fb))) ∧ Below W.heap.size W w2) := fun wx hx => (rnum_pos63 fb (by omega) wx).mono fun e w2 ⟨he, hb⟩ => ⟨he, hx.trans (hb.mono hx.size)⟩
      have za : (ba (decDigits fa)).size ≤ 20 := by rw [ba, mk_size, decDigits_length]; exact nDigits_le20 fa (by omega)
      have zb : (ba (decDigits fb)).size ≤ 20 := by rw [ba, mk_size, decDigits_length]; exact nDigits_le20 fb (by omega)
      have hres : (⟨#[105, 100, 115, 32]⟩ : ByteArray) ++ ba (decDigits fa) ++ (⟨#[32]⟩ : ByteArray) ++ ba (decDigits fb) = ba (join (pathL 2 col ⟨ta, na, ia, xa, ba1⟩ ⟨tb, nb, ib, xb, bb⟩ fa fb) [32]) := by
        rw [show (⟨#[105, 100, 115, 32]⟩ : ByteArray) = ba [105, 100, 115, 32] from rfl, show (⟨#[32]⟩ : ByteArray) = ba [32] from rfl, ba_app, ba_app, ba_app]
        congr 1
        simp [pathL, join_cons, joinTail, idsW]
      obtain ⟨A, hA⟩ : ∃ A, A = ba (decDigits fa) := ⟨_, rfl⟩
      obtain ⟨B, hB⟩ : ∃ B, B = ba (decDigits fb) := ⟨_, rfl⟩
      rw [← hA] at cA za hres
      rw [← hB] at cB zb hres
      replace hA := Lib.hid hA
      replace hB := Lib.hid hB
      have z1 : ¬ 9223372036854775807 < 4 + A.size := by omega
      have z2 : ¬ 9223372036854775807 < 4 + A.size + 1 := by omega
      have z3 : ¬ 9223372036854775807 < 4 + A.size + 1 + B.size := by omega
      have fa1 : (fa : Int) < 4294967296 := by omega
      have fb1 : (fb : Int) < 4294967296 := by omega
      have wa : IntKind.i64.wrap (fa : Int) = (fa : Int) := by unfold IntKind.wrap; simp [IntKind.bits, IntKind.signed]; omega
      have wb : IntKind.i64.wrap (fb : Int) = (fb : Int) := by unfold IntKind.wrap; simp [IntKind.bits, IntKind.signed]; omega
      replace cC := Lib.hid cC
      replace cA := Lib.hid cA
      replace cB := Lib.hid cB
      replace hres := Lib.hid hres
      go_upto_region 7 with fail
      clear c0
      refine wp_region_quietC (C := fun wx => Below W.heap.size W wx) (by kernel_rfl) (by kernel_rfl) (below_drew (Below.refl _ _)) ?_
      iterate 1 (go_big_quiet_want; go_big_quiet_op; first | go_big_quiet_on | (refine ⟨_, fun _ _ => rfl, ?_⟩; go_big_quiet_on))
      go_big_quiet_want; go_big_quiet_op
      refine ⟨.int .u32 (fa : Int), fun wx hx => by first | (simp [go_sem, (cC.out wx hx).1]; done) | (simp [go_sem, (cC.out wx hx).1]; omega), ?_⟩
      go_big_quiet_on
      go_big_quiet_want; go_big_quiet_op
      refine ⟨.int .i64 (fa : Int), fun wx hx => by first | (simp [go_sem, wa]; done) | (simp [go_sem, wa]; omega), ?_⟩
      go_big_quiet_on
      go_big_quiet_want; go_big_quiet_op
      refine ⟨.string A, fun wx hx => cA.out wx hx, ?_⟩
      go_big_quiet_on
      go_big_quiet_want; go_big_quiet_op
      refine ⟨.string ((⟨#[105, 100, 115, 32]⟩ : ByteArray) ++ A), fun wx hx => by first | (simp [go_sem, z1]; done) | (simp [go_sem, z1]; omega), ?_⟩
      go_big_quiet_on
      go_big_quiet_want; go_big_quiet_op
      refine ⟨.string ((⟨#[105, 100, 115, 32]⟩ : ByteArray) ++ A ++ (⟨#[32]⟩ : ByteArray)), fun wx hx => by first | (simp [go_sem, z2]; done) | (simp [go_sem, z2]; omega), ?_⟩
      go_big_quiet_on
      iterate 1 (go_big_quiet_want; go_big_quiet_op; first | go_big_quiet_on | (refine ⟨_, fun _ _ => rfl, ?_⟩; go_big_quiet_on))
      go_big_quiet_want; go_big_quiet_op
      refine ⟨.int .u32 (fb : Int), fun wx hx => by first | (simp [go_sem, (cC.out wx hx).2]; done) | (simp [go_sem, (cC.out wx hx).2]; omega), ?_⟩
      go_big_quiet_on
      go_big_quiet_want; go_big_quiet_op
      refine ⟨.int .i64 (fb : Int), fun wx hx => by first | (simp [go_sem, wb]; done) | (simp [go_sem, wb]; omega), ?_⟩
      go_big_quiet_on
      go_big_quiet_want; go_big_quiet_op
      refine ⟨.string B, fun wx hx => cB.out wx hx, ?_⟩
      go_big_quiet_on
      go_big_quiet_want; go_big_quiet_op
      refine ⟨.string ((⟨#[105, 100, 115, 32]⟩ : ByteArray) ++ A ++ (⟨#[32]⟩ : ByteArray) ++ B), fun wx hx => by first | (simp [go_sem, z3]; done) | (simp [go_sem, z3]; omega), ?_⟩
      go_big_quiet_on
      iterate 1 (go_big_quiet_want; go_big_quiet_op; first | go_big_quiet_on | (refine ⟨_, fun _ _ => rfl, ?_⟩; go_big_quiet_on))
      refine wpQuiet_nil ?_
      intro w' hw'
      replace hw' := Lib.hid hw'
      go_wp2_with fail
      go_meet
      exact ⟨by rw [hres.out], hw'.out⟩
  case rest =>
    rename World => w2
    obtain ⟨rfl, hb2⟩ := hcut
    as_aux_lemma =>
      go_upto_region 10 with fail
      obtain ⟨x0, hx0⟩ : ∃ x0, x0 = ba (join (pathL 2 col ⟨ta, na, ia, xa, ba1⟩ ⟨tb, nb, ib, xb, bb⟩ fa fb) [32]) := ⟨_, rfl⟩
      rw [← hx0]
      obtain ⟨L0, hL0⟩ : ∃ L0, L0 = pathL 2 col ⟨ta, na, ia, xa, ba1⟩ ⟨tb, nb, ib, xb, bb⟩ fa fb := ⟨_, rfl⟩
      have hne : L0 ≠ [] := by rw [hL0]; intro h; cases h
      rw [← hL0] at hx0
      replace hfin := hfin.out
      rw [← hL0] at hfin
      replace hfin := Lib.hid hfin
      replace hsz := hsz.out
      rw [← hL0] at hsz
      have hJ : ∀ N, join (L0 ++ N) [32] = join L0 [32] ++ joinTail [32] N := fun N => join_app hne N
      have hz0 : x0.size + (joinTail [32] (filL fs)).length + (joinTail [32] (ordL od ds)).length + (joinTail [32] (limL lm)).length ≤ 140737488355328 := by
        rw [hJ, tailL, joinTail_app, joinTail_app] at hsz
        simp only [List.length_append] at hsz
        rw [hx0, ba, mk_size]
        omega
      clear hL0 c0 hsz hsa hsb hfa hfb
      replace hx0 := Lib.hid hx0
      replace hne := Lib.hid hne
      replace hb2 := Lib.hid hb2
      replace hJ := Lib.hid hJ
      replace hz0 := Lib.hid hz0
      obtain ⟨x1, hx1⟩ : ∃ x1, x1 = ba (join (L0 ++ filL fs) [32]) := ⟨_, rfl⟩
      replace hx1 := Lib.hid hx1
      go_upto_if 38 with fail
      go_cut [5] (fun q wx => q = .string x1 ∧ w2 = wx)
      case first =>
        as_aux_lemma =>
          cases fs with
          | false => 
            have e : x1 = x0 := by rw [hx1.out, hx0.out, show L0 ++ filL false = L0 from List.append_nil _]
            replace e := Lib.hid e
            go_wp2_with fail
            go_meet
            exact ⟨by rw [e.out], rfl⟩
          | true =>
            have z1 : ¬ 9223372036854775807 < x0.size + (⟨#[32, 102, 105, 108, 116, 101, 114]⟩ : ByteArray).size := by have := hz0.out; have e : (⟨#[32, 102, 105, 108, 116, 101, 114]⟩ : ByteArray).size = 7 := rfl; omega
            have e : x0 ++ (⟨#[32, 102, 105, 108, 116, 101, 114]⟩ : ByteArray) = x1 := by
              rw [hx1.out, hx0.out, hJ.out]
              exact ba_app (join L0 [32]) [32, 102, 105, 108, 116, 101, 114]
            replace e := Lib.hid e
            go_wp2_with fail
            go_meet
            exact ⟨by rw [e.out], rfl⟩
      case rest =>
        rename World => w3
        obtain ⟨rfl, rfl⟩ := hcut
        as_aux_lemma =>
          have hk := kP.out w2 hb2.out
          have c14 := hk.cell (o := 14) rfl
          clear hk
          have hs1 : x1.size = x0.size + (joinTail [32] (filL fs)).length := by rw [hx1.out, hx0.out, hJ.out]; simp only [ba, mk_size, List.length_append]
          replace hs1 := Lib.hid hs1
          obtain ⟨oz, hoz⟩ : ∃ oz, (!od.toList.isEmpty) = oz := ⟨_, rfl⟩
          have hez : od = ⟨#[]⟩ ↔ oz = false := by
            rw [← hoz]
            constructor
            · intro h; rw [h, ByteArray.toList_eq]; rfl
            · intro h; rw [ByteArray.toList_eq] at h; exact ba_eq (by simpa using h)
          replace hez := Lib.hid hez
          obtain ⟨x2, hx2⟩ : ∃ x2, x2 = ba (join (L0 ++ filL fs ++ ordL od ds) [32]) := ⟨_, rfl⟩
          have hJ2 : x2 = x1 ++ ba (joinTail [32] (ordL od ds)) := by rw [hx2, hx1.out, join_app (by intro h; exact hne.out (List.append_eq_nil_iff.1 h).1), ba_app]
          replace hx2 := Lib.hid hx2
          replace hJ2 := Lib.hid hJ2
          go_upto_region 12 with fail
          go_cut [43] (fun q wx => q = .bool oz ∧ w2 = wx)
          case first => as_aux_lemma =>
            go_wp2_with fail
            go_meet
            exact ⟨rfl, rfl⟩
          case rest =>
            rename World => w4
            obtain ⟨rfl, rfl⟩ := hcut
            replace hoz := Lib.hid hoz
            have hk := kP.out w2 hb2.out
            have c15 := hk.cell (o := 15) rfl
            clear hk
            go_upto_if 43 with fail
            go_cut [5] (fun q wx => q = .string x2 ∧ w2 = wx)
            case first =>
              as_aux_lemma =>
                cases oz with
                | false =>
                  have e : x2 = x1 := by rw [hx2.out, hx1.out, ordL, if_pos (hez.out.2 rfl), List.append_nil]
                  replace e := Lib.hid e
                  go_wp2_with fail
                  go_meet
                  exact ⟨by rw [e.out], rfl⟩
                | true =>
                  have e : ordL od ds = [orderW, od.data.toList] ++ dscL ds := by rw [ordL, if_neg (fun h => by have := hez.out.1 h; cases this)]
                  have hjt : joinTail [32] (ordL od ds) = ([32, 111, 114, 100, 101, 114, 32] ++ od.data.toList) ++ joinTail [32] (dscL ds) := by rw [e]; rfl
                  have hzz : x1.size + (7 + od.size) + (joinTail [32] (dscL ds)).length ≤ 140737488355328 := by
                    have h := hz0.out
                    have h1 := hs1.out
                    rw [hjt] at h
                    have : od.data.toList.length = od.size := by simp
                    simp only [List.length_append, List.length_cons, List.length_nil] at h
                    omega
                  have es : ((⟨#[32, 111, 114, 100, 101, 114, 32]⟩ : ByteArray) ++ od).size = 7 + od.size := by rw [ByteArray.size_append]; rfl
                  have z1 : ¬ 9223372036854775807 < (⟨#[32, 111, 114, 100, 101, 114, 32]⟩ : ByteArray).size + od.size := by have e : (⟨#[32, 111, 114, 100, 101, 114, 32]⟩ : ByteArray).size = 7 := rfl; omega
                  have z2 : ¬ 9223372036854775807 < x1.size + ((⟨#[32, 111, 114, 100, 101, 114, 32]⟩ : ByteArray) ++ od).size := by rw [es]; omega
                  have e5 : ((⟨#[32, 111, 114, 100, 101, 114, 32]⟩ : ByteArray) ++ od) = ba ([32, 111, 114, 100, 101, 114, 32] ++ od.data.toList) := by have h := ba_app [32, 111, 114, 100, 101, 114, 32] od.data.toList; rw [ba_of] at h; exact h
                  cases ds with
                  | false =>
                    have ee : x1 ++ ((⟨#[32, 111, 114, 100, 101, 114, 32]⟩ : ByteArray) ++ od) = x2 := by
                      rw [hJ2.out, hjt, e5]
                      congr 2
                      exact (List.append_nil _).symm
                    clear hjt e5 e es hzz
                    replace ee := Lib.hid ee
                    go_wp2_with fail
                    go_meet
                    exact ⟨by rw [ee.out], rfl⟩
                  | true =>
                    have z3 : ¬ 9223372036854775807 < (x1 ++ ((⟨#[32, 111, 114, 100, 101, 114, 32]⟩ : ByteArray) ++ od)).size + (⟨#[32, 100, 101, 115, 99]⟩ : ByteArray).size := by
                      have e : (⟨#[32, 100, 101, 115, 99]⟩ : ByteArray).size = 5 := rfl
                      have e2 : (joinTail [32] (dscL true)).length = 5 := rfl
                      rw [ByteArray.size_append, es]; omega
                    have ee : x1 ++ ((⟨#[32, 111, 114, 100, 101, 114, 32]⟩ : ByteArray) ++ od) ++ (⟨#[32, 100, 101, 115, 99]⟩ : ByteArray) = x2 := by
                      rw [hJ2.out, hjt, e5]
                      conv => lhs; rw [← ba_of x1]
                      conv => rhs; rw [← ba_of x1]
                      rw [ba_app, ba_app]
                      rw [show (⟨#[32, 100, 101, 115, 99]⟩ : ByteArray) = ba [32, 100, 101, 115, 99] from rfl, ba_app]
                      congr 1
                      rw [List.append_assoc]
                      rfl
                    clear hjt e5 e es hzz
                    replace ee := Lib.hid ee
                    go_wp2_with fail
                    go_meet
                    exact ⟨by rw [ee.out], rfl⟩
            case rest =>
              rename World => w5
              obtain ⟨rfl, rfl⟩ := hcut
              clear c14 c15 hez hoz
              as_aux_lemma =>
                have hk := kP.out w2 hb2.out
                have c16 := hk.cell (o := 16) rfl
                clear hk
                obtain ⟨x3, hx3⟩ : ∃ x3, x3 = ba (join (L0 ++ filL fs ++ ordL od ds ++ limL lm) [32]) := ⟨_, rfl⟩
                have hJ3 : x3 = x2 ++ ba (joinTail [32] (limL lm)) := by rw [hx3, hx2.out, join_app (by intro h; exact hne.out (List.append_eq_nil_iff.1 (List.append_eq_nil_iff.1 h).1).1), ba_app]
                have hs2 : x2.size = x1.size + (joinTail [32] (ordL od ds)).length := by rw [hJ2.out, ByteArray.size_append]; simp only [ba, mk_size]
                replace hx3 := Lib.hid hx3
                replace hJ3 := Lib.hid hJ3
                replace hs2 := Lib.hid hs2
                go_upto_region 16 with fail
                go_cut [55] (fun q wx => q = .bool (decide (0 ≤ lm)) ∧ w2 = wx)
                case first => as_aux_lemma =>
                  by_cases h : 0 ≤ lm
                  · have h2 : decide (0 ≤ lm) = true := decide_eq_true h
                    have h3 : lm ≥ 0 := h
                    go_wp2_with fail
                    go_meet
                    exact ⟨by rw [h2], rfl⟩
                  · have h2 : decide (0 ≤ lm) = false := decide_eq_false h
                    have h3 : ¬ lm ≥ 0 := h
                    go_wp2_with fail
                    go_meet
                    exact ⟨by rw [h2], rfl⟩
                case rest =>
                  rename World => w6
                  obtain ⟨rfl, rfl⟩ := hcut
                  go_upto_if 55 with fail
                  go_cut [5] (fun q wx => q = .string x3 ∧ Below W.heap.size W wx)
                  case first =>
                    as_aux_lemma =>
                      by_cases h : 0 ≤ lm
                      ·
                        have h2 : decide (0 ≤ lm) = true := decide_eq_true h
                        obtain ⟨n, rfl⟩ : ∃ n : Nat, lm = n := ⟨lm.toNat, by omega⟩
                        have hn := rnum_pos63 n (by omega) w2
                        have e : limL (n : Int) = [limitW, decDigits n] := by rw [limL, if_pos h, itoa_nonneg]
                        have hzz : x2.size + (7 + (ba (decDigits n)).size) ≤ 140737488355328 := by
                          have h := hz0.out
                          have h1 := hs1.out
                          have h2 := hs2.out
                          rw [e] at h
                          have e2 : (joinTail [32] [limitW, decDigits n]).length = 7 + (decDigits n).length := by simp [joinTail, limitW]; omega
                          have e6 : (ba (decDigits n)).size = (decDigits n).length := by rw [ba, mk_size]
                          omega
                        have ee0 : x3 = x2 ++ ba ([32, 108, 105, 109, 105, 116, 32] ++ decDigits n) := by rw [hJ3.out, e]; congr 2; simp [joinTail, limitW]
                        obtain ⟨dn, hdn⟩ : ∃ dn, dn = ba (decDigits n) := ⟨_, rfl⟩
                        rw [← hdn] at hn hzz
                        have ee : x2 ++ ((⟨#[32, 108, 105, 109, 105, 116, 32]⟩ : ByteArray) ++ dn) = x3 := by rw [ee0, hdn]; exact congrArg (x2 ++ ·) (ba_app _ _)
                        have es : ((⟨#[32, 108, 105, 109, 105, 116, 32]⟩ : ByteArray) ++ dn).size = 7 + dn.size := ByteArray.size_append
                        have z1 : ¬ 9223372036854775807 < (⟨#[32, 108, 105, 109, 105, 116, 32]⟩ : ByteArray).size + dn.size := by have e : (⟨#[32, 108, 105, 109, 105, 116, 32]⟩ : ByteArray).size = 7 := rfl; omega
                        have z2 : ¬ 9223372036854775807 < x2.size + ((⟨#[32, 108, 105, 109, 105, 116, 32]⟩ : ByteArray) ++ dn).size := by rw [es]; omega
                        clear e ee0 hdn hzz es h
                        replace ee := Lib.hid ee
                        replace hn := Lib.hid hn
                        go_wp2_with fail
                        refine hn.out.mono ?_
                        rintro e w8 ⟨rfl, hb8⟩
                        have hb9 := Lib.hid (hb2.out.trans (hb8.mono hb2.out.size))
                        clear hb8 c16
                        go_wp2_with fail
                        go_meet
                        exact ⟨by rw [ee.out], hb9.out⟩
                      ·
                        have h2 : decide (0 ≤ lm) = false := decide_eq_false h
                        have e : x3 = x2 := by rw [hx3.out, hx2.out, limL, if_neg h, List.append_nil]
                        replace e := Lib.hid e
                        replace h := Lib.hid h
                        go_wp2_with fail
                        go_meet
                        exact ⟨by rw [e.out], hb2.out⟩
                  case rest =>
                    rename World => w8
                    obtain ⟨rfl, hb8⟩ := hcut
                    have hfin2 := hfin.out w8 (hBW.out.trans (hb8.mono hBW.out.size))
                    rw [show L0 ++ tailL fs od ds lm = L0 ++ filL fs ++ ordL od ds ++ limL lm from by rw [tailL]; simp only [List.append_assoc], ← hx3.out] at hfin2
                    replace hfin2 := Lib.hid hfin2
                    clear c16 hb8
                    as_aux_lemma =>
                      go_wp2_with fail
                      exact hfin2.out
set_option maxHeartbeats 8000000 in
set_option maxRecDepth 100000 in
theorem rtext_p3 {w : World} (col : ByteArray) (ta : Nat) (na : Bool) (ia : Int) (xa : ByteArray) (ba1 : Bool) (tb : Nat) (nb : Bool) (ib : Int) (xb : ByteArray) (bb : Bool) (fa fb : Nat) (hfa : fa < 4294967296) (hfb : fb < 4294967296) (fs : Bool) (od : ByteArray) (ds : Bool) (lm : Int) (hl0 : -9223372036854775808 ≤ lm) (hl1 : lm ≤ 9223372036854775807)
    (hsa : xa.size ≤ 9223372036854775807) (hsb : xb.size ≤ 9223372036854775807) (hsz : (join (pathL 3 col ⟨ta, na, ia, xa, ba1⟩ ⟨tb, nb, ib, xb, bb⟩ fa fb ++ tailL fs od ds lm) [32]).length ≤ 140737488355328) :
    Calls Tryz.prog 16 #[.agg #[.int .i64 3, .string col, .int .i64 (ta : Int), .bool na, .int .i64 ia, .string xa, .bool ba1, .int .i64 (tb : Int), .bool nb, .int .i64 ib, .string xb, .bool bb, .int .u32 (fa : Int), .int .u32 (fb : Int), .string od, .bool ds, .int .i64 lm], .bool fs] w (RPost w (.string (ba (join (pathL 3 col ⟨ta, na, ia, xa, ba1⟩ ⟨tb, nb, ib, xb, bb⟩ fa fb ++ tailL fs od ds lm) [32])))) := by
  generalize hpost : RPost w (.string (ba (join (pathL 3 col ⟨ta, na, ia, xa, ba1⟩ ⟨tb, nb, ib, xb, bb⟩ fa fb ++ tailL fs od ds lm) [32]))) = post
  have hfin : ∀ w', Below w.heap.size w w' → post (.returned (.string (ba (join (pathL 3 col ⟨ta, na, ia, xa, ba1⟩ ⟨tb, nb, ib, xb, bb⟩ fa fb ++ tailL fs od ds lm) [32])))) w' := fun w' hb => by rw [← hpost]; exact ⟨rfl, hb⟩
  replace hpost := Lib.hid hpost
  replace hfin := Lib.hid hfin
  replace hsz := Lib.hid hsz
  obtain ⟨W, hW⟩ : ∃ W, W = w.alloc (.cells #[.int .i64 3, .string col, .int .i64 (ta : Int), .bool na, .int .i64 ia, .string xa, .bool ba1, .int .i64 (tb : Int), .bool nb, .int .i64 ib, .string xb, .bool bb, .int .u32 (fa : Int), .int .u32 (fb : Int), .string od, .bool ds, .int .i64 lm] 48) := ⟨_, rfl⟩
  have hP : Has W w.heap.size [.int .i64 3, .string col, .int .i64 (ta : Int), .bool na, .int .i64 ia, .string xa, .bool ba1, .int .i64 (tb : Int), .bool nb, .int .i64 ib, .string xb, .bool bb, .int .u32 (fa : Int), .int .u32 (fb : Int), .string od, .bool ds, .int .i64 lm] 48 := by rw [hW]; exact Has.new w _ _
  have hBW : Below w.heap.size w W := by rw [hW]; exact (Below.refl _ _).alloc (Nat.le_refl _) _
  have kP := Lib.hid (fun wx (hb : Below W.heap.size W wx) => hP.only (Only.of_below hb) (Nat.not_le.2 hP.lt))
  replace hBW := Lib.hid hBW
  replace hW := Lib.hid hW.symm
  clear hP
  have hk := kP.out W (Below.refl _ _)
  have c0 := hk.cell (o := 0) rfl
  clear hk
  go_enter Tryz.func16, Tryz.ntmps16
  go_upto_region 1 with fail
  rw [hW.out]
  go_upto_block 0 with fail
  go_cut [5] (fun q wx => q = .string (ba (join (pathL 3 col ⟨ta, na, ia, xa, ba1⟩ ⟨tb, nb, ib, xb, bb⟩ fa fb) [32])) ∧ Below W.heap.size W wx)
  case first =>
    as_aux_lemma =>
      have cC : ∀ wx, Below W.heap.size W wx → wx.cell? ⟨w.heap.size, 1, none⟩ = some (.string col) ∧ wx.cell? ⟨w.heap.size, 2, none⟩ = some (.int .i64 (ta : Int)) ∧ wx.cell? ⟨w.heap.size, 3, none⟩ = some (.bool na) ∧ wx.cell? ⟨w.heap.size, 4, none⟩ = some (.int .i64 ia) ∧ wx.cell? ⟨w.heap.size, 5, none⟩ = some (.string xa) ∧ wx.cell? ⟨w.heap.size, 6, none⟩ = some (.bool ba1) ∧ wx.cell? ⟨w.heap.size, 7, none⟩ = some (.int .i64 (tb : Int)) ∧ wx.cell? ⟨w.heap.size, 8, none⟩ = some (.bool nb) ∧ wx.cell? ⟨w.heap.size, 9, none⟩ = some (.int .i64 ib) ∧ wx.cell? ⟨w.heap.size, 10, none⟩ = some (.string xb) ∧ wx.cell? ⟨w.heap.size, 11, none⟩ = some (.bool bb) := fun wx hx => ⟨(kP.out wx hx).cell (o := 1) rfl, (kP.out wx hx).cell (o := 2) rfl, (kP.out wx hx).cell (o := 3) rfl, (kP.out wx hx).cell (o := 4) rfl, (kP.out wx hx).cell (o := 5) rfl, (kP.out wx hx).cell (o := 6) rfl, (kP.out wx hx).cell (o := 7) rfl, (kP.out wx hx).cell (o := 8) rfl, (kP.out wx hx).cell (o := 9) rfl, (kP.out wx hx).cell (o := 10) rfl, (kP.out wx hx).cell (o := 11) rfl⟩
      have cA : ∀ wx, Below W.heap.size W wx → Calls Tryz.prog 39 #[.agg #[.int .i64 (ta : Int), .bool na, .int .i64 ia, .string xa, .bool ba1]] wx (fun e w2 => e = .returned (.string (ba (boundP ⟨ta, na, ia, xa, ba1⟩))) ∧ Below W.heap.size W w2) := fun wx hx => (rbound_any ta na ia xa ba1 hsa wx).mono fun e w2 ⟨he, hb⟩ => ⟨he, hx.trans (hb.mono hx.size)⟩
      have cB : ∀ wx, Below W.heap.size W wx → Calls Tryz.prog 39 #[.agg #[.int .i64 (tb : Int), .bool nb, .int .i64 ib, .string xb, .bool bb]] wx (fun e w2 => e = .returned (.string (ba (boundP ⟨tb, nb, ib, xb, bb⟩))) ∧ Below W.heap.size W w2) := fun wx hx => (rbound_any tb nb ib xb bb hsb wx).mono fun e w2 ⟨he, hb⟩ => ⟨he, hx.trans (hb.mono hx.size)⟩
      have hres : (⟨#[105, 110, 100, 101, 120, 32]⟩ : ByteArray) ++ col ++ (⟨#[32]⟩ : ByteArray) ++ ba (boundP ⟨ta, na, ia, xa, ba1⟩) ++ (⟨#[32]⟩ : ByteArray) ++ ba (boundP ⟨tb, nb, ib, xb, bb⟩) = ba (join (pathL 3 col ⟨ta, na, ia, xa, ba1⟩ ⟨tb, nb, ib, xb, bb⟩ fa fb) [32]) := by
        conv => lhs; rw [← ba_of col]
        rw [show (⟨#[105, 110, 100, 101, 120, 32]⟩ : ByteArray) = ba [105, 110, 100, 101, 120, 32] from rfl, show (⟨#[32]⟩ : ByteArray) = ba [32] from rfl, ba_app, ba_app, ba_app, ba_app, ba_app]
        congr 1
        simp [pathL, join_cons, joinTail, indexW]
      have hz : 6 + col.size + 1 + (ba (boundP ⟨ta, na, ia, xa, ba1⟩)).size + 1 + (ba (boundP ⟨tb, nb, ib, xb, bb⟩)).size ≤ 140737488355328 := by
        have h := hsz.out
        rw [join_app (by intro h; cases h), List.length_append] at h
        have e := congrArg ByteArray.size hres
        simp only [ByteArray.size_append] at e
        rw [show (ba (join (pathL 3 col ⟨ta, na, ia, xa, ba1⟩ ⟨tb, nb, ib, xb, bb⟩ fa fb) [32])).size = (join (pathL 3 col ⟨ta, na, ia, xa, ba1⟩ ⟨tb, nb, ib, xb, bb⟩ fa fb) [32]).length from by rw [ba, mk_size]] at e
        have e1 : (⟨#[105, 110, 100, 101, 120, 32]⟩ : ByteArray).size = 6 := rfl
        have e2 : (⟨#[32]⟩ : ByteArray).size = 1 := rfl
        omega
      obtain ⟨A, hA⟩ : ∃ A, A = ba (boundP ⟨ta, na, ia, xa, ba1⟩) := ⟨_, rfl⟩
      obtain ⟨B, hB⟩ : ∃ B, B = ba (boundP ⟨tb, nb, ib, xb, bb⟩) := ⟨_, rfl⟩
      rw [← hA] at cA hz hres
      rw [← hB] at cB hz hres
      replace hA := Lib.hid hA
      replace hB := Lib.hid hB
      have z1 : ¬ 9223372036854775807 < 6 + col.size := by omega
      have z2 : ¬ 9223372036854775807 < 6 + col.size + 1 := by omega
      have z3 : ¬ 9223372036854775807 < 6 + col.size + 1 + A.size := by omega
      have z4 : ¬ 9223372036854775807 < 6 + col.size + 1 + A.size + 1 := by omega
      have z5 : ¬ 9223372036854775807 < 6 + col.size + 1 + A.size + 1 + B.size := by omega
      replace cC := Lib.hid cC
      replace cA := Lib.hid cA
      replace cB := Lib.hid cB
      replace hres := Lib.hid hres
      go_upto_region 9 with fail
      clear c0
      refine wp_region_quietC (C := fun wx => Below W.heap.size W wx) (by kernel_rfl) (by kernel_rfl) (below_drew (Below.refl _ _)) ?_
      iterate 1 (go_big_quiet_want; go_big_quiet_op; first | go_big_quiet_on | (refine ⟨_, fun _ _ => rfl, ?_⟩; go_big_quiet_on))
      go_big_quiet_want; go_big_quiet_op
      refine ⟨.string col, fun wx hx => by first | (simp [go_sem, (cC.out wx hx).1]; done) | (simp [go_sem, (cC.out wx hx).1]; omega), ?_⟩
      go_big_quiet_on
      go_big_quiet_want; go_big_quiet_op
      refine ⟨.string ((⟨#[105, 110, 100, 101, 120, 32]⟩ : ByteArray) ++ col), fun wx hx => by first | (simp [go_sem, z1]; done) | (simp [go_sem, z1]; omega), ?_⟩
      go_big_quiet_on
      go_big_quiet_want; go_big_quiet_op
      refine ⟨.string ((⟨#[105, 110, 100, 101, 120, 32]⟩ : ByteArray) ++ col ++ (⟨#[32]⟩ : ByteArray)), fun wx hx => by first | (simp [go_sem, z2]; done) | (simp [go_sem, z2]; omega), ?_⟩
      go_big_quiet_on
      iterate 1 (go_big_quiet_want; go_big_quiet_op; first | go_big_quiet_on | (refine ⟨_, fun _ _ => rfl, ?_⟩; go_big_quiet_on))
      go_big_quiet_want; go_big_quiet_op
      refine ⟨.agg #[.int .i64 (ta : Int), .bool na, .int .i64 ia, .string xa, .bool ba1], fun wx hx => by first | (simp [go_sem, (cC.out wx hx).2.1, (cC.out wx hx).2.2.1, (cC.out wx hx).2.2.2.1, (cC.out wx hx).2.2.2.2.1, (cC.out wx hx).2.2.2.2.2.1]; done) | (simp [go_sem, (cC.out wx hx).2.1, (cC.out wx hx).2.2.1, (cC.out wx hx).2.2.2.1, (cC.out wx hx).2.2.2.2.1, (cC.out wx hx).2.2.2.2.2.1]; omega), ?_⟩
      go_big_quiet_on
      go_big_quiet_want; go_big_quiet_op
      refine ⟨.string A, fun wx hx => cA.out wx hx, ?_⟩
      go_big_quiet_on
      go_big_quiet_want; go_big_quiet_op
      refine ⟨.string ((⟨#[105, 110, 100, 101, 120, 32]⟩ : ByteArray) ++ col ++ (⟨#[32]⟩ : ByteArray) ++ A), fun wx hx => by first | (simp [go_sem, z3]; done) | (simp [go_sem, z3]; omega), ?_⟩
      go_big_quiet_on
      go_big_quiet_want; go_big_quiet_op
      refine ⟨.string ((⟨#[105, 110, 100, 101, 120, 32]⟩ : ByteArray) ++ col ++ (⟨#[32]⟩ : ByteArray) ++ A ++ (⟨#[32]⟩ : ByteArray)), fun wx hx => by first | (simp [go_sem, z4]; done) | (simp [go_sem, z4]; omega), ?_⟩
      go_big_quiet_on
      iterate 1 (go_big_quiet_want; go_big_quiet_op; first | go_big_quiet_on | (refine ⟨_, fun _ _ => rfl, ?_⟩; go_big_quiet_on))
      go_big_quiet_want; go_big_quiet_op
      refine ⟨.agg #[.int .i64 (tb : Int), .bool nb, .int .i64 ib, .string xb, .bool bb], fun wx hx => by first | (simp [go_sem, (cC.out wx hx).2.2.2.2.2.2.1, (cC.out wx hx).2.2.2.2.2.2.2.1, (cC.out wx hx).2.2.2.2.2.2.2.2.1, (cC.out wx hx).2.2.2.2.2.2.2.2.2.1, (cC.out wx hx).2.2.2.2.2.2.2.2.2.2]; done) | (simp [go_sem, (cC.out wx hx).2.2.2.2.2.2.1, (cC.out wx hx).2.2.2.2.2.2.2.1, (cC.out wx hx).2.2.2.2.2.2.2.2.1, (cC.out wx hx).2.2.2.2.2.2.2.2.2.1, (cC.out wx hx).2.2.2.2.2.2.2.2.2.2]; omega), ?_⟩
      go_big_quiet_on
      go_big_quiet_want; go_big_quiet_op
      refine ⟨.string B, fun wx hx => cB.out wx hx, ?_⟩
      go_big_quiet_on
      go_big_quiet_want; go_big_quiet_op
      refine ⟨.string ((⟨#[105, 110, 100, 101, 120, 32]⟩ : ByteArray) ++ col ++ (⟨#[32]⟩ : ByteArray) ++ A ++ (⟨#[32]⟩ : ByteArray) ++ B), fun wx hx => by first | (simp [go_sem, z5]; done) | (simp [go_sem, z5]; omega), ?_⟩
      go_big_quiet_on
      iterate 1 (go_big_quiet_want; go_big_quiet_op; first | go_big_quiet_on | (refine ⟨_, fun _ _ => rfl, ?_⟩; go_big_quiet_on))
      refine wpQuiet_nil ?_
      intro w' hw'
      replace hw' := Lib.hid hw'
      go_wp2_with fail
      go_meet
      exact ⟨by rw [hres.out], hw'.out⟩
  case rest =>
    rename World => w2
    obtain ⟨rfl, hb2⟩ := hcut
    as_aux_lemma =>
      go_upto_region 10 with fail
      obtain ⟨x0, hx0⟩ : ∃ x0, x0 = ba (join (pathL 3 col ⟨ta, na, ia, xa, ba1⟩ ⟨tb, nb, ib, xb, bb⟩ fa fb) [32]) := ⟨_, rfl⟩
      rw [← hx0]
      obtain ⟨L0, hL0⟩ : ∃ L0, L0 = pathL 3 col ⟨ta, na, ia, xa, ba1⟩ ⟨tb, nb, ib, xb, bb⟩ fa fb := ⟨_, rfl⟩
      have hne : L0 ≠ [] := by rw [hL0]; intro h; cases h
      rw [← hL0] at hx0
      replace hfin := hfin.out
      rw [← hL0] at hfin
      replace hfin := Lib.hid hfin
      replace hsz := hsz.out
      rw [← hL0] at hsz
      have hJ : ∀ N, join (L0 ++ N) [32] = join L0 [32] ++ joinTail [32] N := fun N => join_app hne N
      have hz0 : x0.size + (joinTail [32] (filL fs)).length + (joinTail [32] (ordL od ds)).length + (joinTail [32] (limL lm)).length ≤ 140737488355328 := by
        rw [hJ, tailL, joinTail_app, joinTail_app] at hsz
        simp only [List.length_append] at hsz
        rw [hx0, ba, mk_size]
        omega
      clear hL0 c0 hsz hsa hsb hfa hfb
      replace hx0 := Lib.hid hx0
      replace hne := Lib.hid hne
      replace hb2 := Lib.hid hb2
      replace hJ := Lib.hid hJ
      replace hz0 := Lib.hid hz0
      obtain ⟨x1, hx1⟩ : ∃ x1, x1 = ba (join (L0 ++ filL fs) [32]) := ⟨_, rfl⟩
      replace hx1 := Lib.hid hx1
      go_upto_if 38 with fail
      go_cut [5] (fun q wx => q = .string x1 ∧ w2 = wx)
      case first =>
        as_aux_lemma =>
          cases fs with
          | false => 
            have e : x1 = x0 := by rw [hx1.out, hx0.out, show L0 ++ filL false = L0 from List.append_nil _]
            replace e := Lib.hid e
            go_wp2_with fail
            go_meet
            exact ⟨by rw [e.out], rfl⟩
          | true =>
            have z1 : ¬ 9223372036854775807 < x0.size + (⟨#[32, 102, 105, 108, 116, 101, 114]⟩ : ByteArray).size := by have := hz0.out; have e : (⟨#[32, 102, 105, 108, 116, 101, 114]⟩ : ByteArray).size = 7 := rfl; omega
            have e : x0 ++ (⟨#[32, 102, 105, 108, 116, 101, 114]⟩ : ByteArray) = x1 := by
              rw [hx1.out, hx0.out, hJ.out]
              exact ba_app (join L0 [32]) [32, 102, 105, 108, 116, 101, 114]
            replace e := Lib.hid e
            go_wp2_with fail
            go_meet
            exact ⟨by rw [e.out], rfl⟩
      case rest =>
        rename World => w3
        obtain ⟨rfl, rfl⟩ := hcut
        as_aux_lemma =>
          have hk := kP.out w2 hb2.out
          have c14 := hk.cell (o := 14) rfl
          clear hk
          have hs1 : x1.size = x0.size + (joinTail [32] (filL fs)).length := by rw [hx1.out, hx0.out, hJ.out]; simp only [ba, mk_size, List.length_append]
          replace hs1 := Lib.hid hs1
          obtain ⟨oz, hoz⟩ : ∃ oz, (!od.toList.isEmpty) = oz := ⟨_, rfl⟩
          have hez : od = ⟨#[]⟩ ↔ oz = false := by
            rw [← hoz]
            constructor
            · intro h; rw [h, ByteArray.toList_eq]; rfl
            · intro h; rw [ByteArray.toList_eq] at h; exact ba_eq (by simpa using h)
          replace hez := Lib.hid hez
          obtain ⟨x2, hx2⟩ : ∃ x2, x2 = ba (join (L0 ++ filL fs ++ ordL od ds) [32]) := ⟨_, rfl⟩
          have hJ2 : x2 = x1 ++ ba (joinTail [32] (ordL od ds)) := by rw [hx2, hx1.out, join_app (by intro h; exact hne.out (List.append_eq_nil_iff.1 h).1), ba_app]
          replace hx2 := Lib.hid hx2
          replace hJ2 := Lib.hid hJ2
          go_upto_region 12 with fail
          go_cut [43] (fun q wx => q = .bool oz ∧ w2 = wx)
          case first => as_aux_lemma =>
            go_wp2_with fail
            go_meet
            exact ⟨rfl, rfl⟩
          case rest =>
            rename World => w4
            obtain ⟨rfl, rfl⟩ := hcut
            replace hoz := Lib.hid hoz
            have hk := kP.out w2 hb2.out
            have c15 := hk.cell (o := 15) rfl
            clear hk
            go_upto_if 43 with fail
            go_cut [5] (fun q wx => q = .string x2 ∧ w2 = wx)
            case first =>
              as_aux_lemma =>
                cases oz with
                | false =>
                  have e : x2 = x1 := by rw [hx2.out, hx1.out, ordL, if_pos (hez.out.2 rfl), List.append_nil]
                  replace e := Lib.hid e
                  go_wp2_with fail
                  go_meet
                  exact ⟨by rw [e.out], rfl⟩
                | true =>
                  have e : ordL od ds = [orderW, od.data.toList] ++ dscL ds := by rw [ordL, if_neg (fun h => by have := hez.out.1 h; cases this)]
                  have hjt : joinTail [32] (ordL od ds) = ([32, 111, 114, 100, 101, 114, 32] ++ od.data.toList) ++ joinTail [32] (dscL ds) := by rw [e]; rfl
                  have hzz : x1.size + (7 + od.size) + (joinTail [32] (dscL ds)).length ≤ 140737488355328 := by
                    have h := hz0.out
                    have h1 := hs1.out
                    rw [hjt] at h
                    have : od.data.toList.length = od.size := by simp
                    simp only [List.length_append, List.length_cons, List.length_nil] at h
                    omega
                  have es : ((⟨#[32, 111, 114, 100, 101, 114, 32]⟩ : ByteArray) ++ od).size = 7 + od.size := by rw [ByteArray.size_append]; rfl
                  have z1 : ¬ 9223372036854775807 < (⟨#[32, 111, 114, 100, 101, 114, 32]⟩ : ByteArray).size + od.size := by have e : (⟨#[32, 111, 114, 100, 101, 114, 32]⟩ : ByteArray).size = 7 := rfl; omega
                  have z2 : ¬ 9223372036854775807 < x1.size + ((⟨#[32, 111, 114, 100, 101, 114, 32]⟩ : ByteArray) ++ od).size := by rw [es]; omega
                  have e5 : ((⟨#[32, 111, 114, 100, 101, 114, 32]⟩ : ByteArray) ++ od) = ba ([32, 111, 114, 100, 101, 114, 32] ++ od.data.toList) := by have h := ba_app [32, 111, 114, 100, 101, 114, 32] od.data.toList; rw [ba_of] at h; exact h
                  cases ds with
                  | false =>
                    have ee : x1 ++ ((⟨#[32, 111, 114, 100, 101, 114, 32]⟩ : ByteArray) ++ od) = x2 := by
                      rw [hJ2.out, hjt, e5]
                      congr 2
                      exact (List.append_nil _).symm
                    clear hjt e5 e es hzz
                    replace ee := Lib.hid ee
                    go_wp2_with fail
                    go_meet
                    exact ⟨by rw [ee.out], rfl⟩
                  | true =>
                    have z3 : ¬ 9223372036854775807 < (x1 ++ ((⟨#[32, 111, 114, 100, 101, 114, 32]⟩ : ByteArray) ++ od)).size + (⟨#[32, 100, 101, 115, 99]⟩ : ByteArray).size := by
                      have e : (⟨#[32, 100, 101, 115, 99]⟩ : ByteArray).size = 5 := rfl
                      have e2 : (joinTail [32] (dscL true)).length = 5 := rfl
                      rw [ByteArray.size_append, es]; omega
                    have ee : x1 ++ ((⟨#[32, 111, 114, 100, 101, 114, 32]⟩ : ByteArray) ++ od) ++ (⟨#[32, 100, 101, 115, 99]⟩ : ByteArray) = x2 := by
                      rw [hJ2.out, hjt, e5]
                      conv => lhs; rw [← ba_of x1]
                      conv => rhs; rw [← ba_of x1]
                      rw [ba_app, ba_app]
                      rw [show (⟨#[32, 100, 101, 115, 99]⟩ : ByteArray) = ba [32, 100, 101, 115, 99] from rfl, ba_app]
                      congr 1
                      rw [List.append_assoc]
                      rfl
                    clear hjt e5 e es hzz
                    replace ee := Lib.hid ee
                    go_wp2_with fail
                    go_meet
                    exact ⟨by rw [ee.out], rfl⟩
            case rest =>
              rename World => w5
              obtain ⟨rfl, rfl⟩ := hcut
              clear c14 c15 hez hoz
              as_aux_lemma =>
                have hk := kP.out w2 hb2.out
                have c16 := hk.cell (o := 16) rfl
                clear hk
                obtain ⟨x3, hx3⟩ : ∃ x3, x3 = ba (join (L0 ++ filL fs ++ ordL od ds ++ limL lm) [32]) := ⟨_, rfl⟩
                have hJ3 : x3 = x2 ++ ba (joinTail [32] (limL lm)) := by rw [hx3, hx2.out, join_app (by intro h; exact hne.out (List.append_eq_nil_iff.1 (List.append_eq_nil_iff.1 h).1).1), ba_app]
                have hs2 : x2.size = x1.size + (joinTail [32] (ordL od ds)).length := by rw [hJ2.out, ByteArray.size_append]; simp only [ba, mk_size]
                replace hx3 := Lib.hid hx3
                replace hJ3 := Lib.hid hJ3
                replace hs2 := Lib.hid hs2
                go_upto_region 16 with fail
                go_cut [55] (fun q wx => q = .bool (decide (0 ≤ lm)) ∧ w2 = wx)
                case first => as_aux_lemma =>
                  by_cases h : 0 ≤ lm
                  · have h2 : decide (0 ≤ lm) = true := decide_eq_true h
                    have h3 : lm ≥ 0 := h
                    go_wp2_with fail
                    go_meet
                    exact ⟨by rw [h2], rfl⟩
                  · have h2 : decide (0 ≤ lm) = false := decide_eq_false h
                    have h3 : ¬ lm ≥ 0 := h
                    go_wp2_with fail
                    go_meet
                    exact ⟨by rw [h2], rfl⟩
                case rest =>
                  rename World => w6
                  obtain ⟨rfl, rfl⟩ := hcut
                  go_upto_if 55 with fail
                  go_cut [5] (fun q wx => q = .string x3 ∧ Below W.heap.size W wx)
                  case first =>
                    as_aux_lemma =>
                      by_cases h : 0 ≤ lm
                      ·
                        have h2 : decide (0 ≤ lm) = true := decide_eq_true h
                        obtain ⟨n, rfl⟩ : ∃ n : Nat, lm = n := ⟨lm.toNat, by omega⟩
                        have hn := rnum_pos63 n (by omega) w2
                        have e : limL (n : Int) = [limitW, decDigits n] := by rw [limL, if_pos h, itoa_nonneg]
                        have hzz : x2.size + (7 + (ba (decDigits n)).size) ≤ 140737488355328 := by
                          have h := hz0.out
                          have h1 := hs1.out
                          have h2 := hs2.out
                          rw [e] at h
                          have e2 : (joinTail [32] [limitW, decDigits n]).length = 7 + (decDigits n).length := by simp [joinTail, limitW]; omega
                          have e6 : (ba (decDigits n)).size = (decDigits n).length := by rw [ba, mk_size]
                          omega
                        have ee0 : x3 = x2 ++ ba ([32, 108, 105, 109, 105, 116, 32] ++ decDigits n) := by rw [hJ3.out, e]; congr 2; simp [joinTail, limitW]
                        obtain ⟨dn, hdn⟩ : ∃ dn, dn = ba (decDigits n) := ⟨_, rfl⟩
                        rw [← hdn] at hn hzz
                        have ee : x2 ++ ((⟨#[32, 108, 105, 109, 105, 116, 32]⟩ : ByteArray) ++ dn) = x3 := by rw [ee0, hdn]; exact congrArg (x2 ++ ·) (ba_app _ _)
                        have es : ((⟨#[32, 108, 105, 109, 105, 116, 32]⟩ : ByteArray) ++ dn).size = 7 + dn.size := ByteArray.size_append
                        have z1 : ¬ 9223372036854775807 < (⟨#[32, 108, 105, 109, 105, 116, 32]⟩ : ByteArray).size + dn.size := by have e : (⟨#[32, 108, 105, 109, 105, 116, 32]⟩ : ByteArray).size = 7 := rfl; omega
                        have z2 : ¬ 9223372036854775807 < x2.size + ((⟨#[32, 108, 105, 109, 105, 116, 32]⟩ : ByteArray) ++ dn).size := by rw [es]; omega
                        clear e ee0 hdn hzz es h
                        replace ee := Lib.hid ee
                        replace hn := Lib.hid hn
                        go_wp2_with fail
                        refine hn.out.mono ?_
                        rintro e w8 ⟨rfl, hb8⟩
                        have hb9 := Lib.hid (hb2.out.trans (hb8.mono hb2.out.size))
                        clear hb8 c16
                        go_wp2_with fail
                        go_meet
                        exact ⟨by rw [ee.out], hb9.out⟩
                      ·
                        have h2 : decide (0 ≤ lm) = false := decide_eq_false h
                        have e : x3 = x2 := by rw [hx3.out, hx2.out, limL, if_neg h, List.append_nil]
                        replace e := Lib.hid e
                        replace h := Lib.hid h
                        go_wp2_with fail
                        go_meet
                        exact ⟨by rw [e.out], hb2.out⟩
                  case rest =>
                    rename World => w8
                    obtain ⟨rfl, hb8⟩ := hcut
                    have hfin2 := hfin.out w8 (hBW.out.trans (hb8.mono hBW.out.size))
                    rw [show L0 ++ tailL fs od ds lm = L0 ++ filL fs ++ ordL od ds ++ limL lm from by rw [tailL]; simp only [List.append_assoc], ← hx3.out] at hfin2
                    replace hfin2 := Lib.hid hfin2
                    clear c16 hb8
                    as_aux_lemma =>
                      go_wp2_with fail
                      exact hfin2.out
end Go.Proofs.YtgnoikfmhncbmaaGreatDoor
