/- The walk of the law's same, of a row and the same row. -/
import Derived.Test.YtpjbcadelmjmfaaGreatDoorR10
namespace Go.Proofs.YtpjbcadelmjmfaaGreatDoor
open Go.RowKit Go.Lib Go.BigFrame
set_option linter.unusedVariables false

set_option maxHeartbeats 4000000 in
set_option maxRecDepth 100000 in
theorem same_any (x : List RV) (hty : ∀ v ∈ x, v.ty < 256) (hl : x.length ≤ 100000) (a : Option Addr) (c : Nat) (b : Option Addr) (d : Nat) (w : World) (hr : Rd w (.slice a x.length c) x.length (vCells x)) (hs : Rd w (.slice b x.length d) x.length (rvCells x)) :
    Calls Tryz.prog 32 #[.slice a x.length c, .slice b x.length d] w (RPost w (.bool true)) := by
  generalize hpost : RPost w (.bool true) = post
  replace hpost := Lib.hid hpost
  have hfin : ∀ w', Below w.heap.size w w' → post (.returned (.bool true)) w' := by
    intro w' hb
    rw [← hpost.out]
    exact ⟨rfl, hb⟩
  obtain ⟨n, hn⟩ : ∃ n, n = x.length := ⟨_, rfl⟩
  have hg : Calls Tryz.prog 32 #[.slice a n c, .slice b n d] w post := by
    have dI : ((n : Int) != (n : Int)) = false := by simp
    have hnl : n ≤ 100000 := by omega
    replace hfin := Lib.hid hfin
    replace hn := Lib.hid hn
    go_enter Tryz.func32, Tryz.ntmps32
    go_wp2_with fail
    go_loopw [13] (fun i wr => ∃ k : Nat, k ≤ n ∧ i = .int .i64 k ∧ Below w.heap.size w wr) (fun i _ => n - (RowKit.intOf i).toNat)
    case atStart => exact ⟨0, by omega, rfl, Below.refl _ _⟩
    case round =>
      obtain ⟨k, hk, rfl, hB⟩ := hrel
      by_cases hlt : k < n
      · have hlI : (k : Int) < n := by omega
        have hkx : k < x.length := by have := hn.out; omega
        obtain ⟨bl, ol, cl, ea, fa⟩ := (hr.kept hB).cells (by omega)
        obtain ⟨bs, os, cs, eb, fb⟩ := (hs.kept hB).cells (by omega)
        simp only [Value.slice.injEq, true_and] at ea eb
        obtain ⟨ea, hca⟩ := ea
        obtain ⟨eb, hcb⟩ := eb
        replace hca := Lib.hid hca
        replace hcb := Lib.hid hcb
        subst ea eb
        have hty1 := hty _ (List.mem_of_getElem? (get_lt RV0 hkx))
        have g0 := vc_get hkx
        have g1 := rvc_get hkx
        generalize x.getD k RV0 = v at *
        obtain ⟨ty, nl, m, tx, bv⟩ := v
        simp only at hty1
        have c0 : ∀ wx, Below wr.heap.size wr wx → wx.cell? ⟨bl, ol + k * 5, none⟩ = some (.int .u8 (ty : Int)) := fun wx hx => cellk hx (fa _ _ (g0 0 _ rfl))
        have c1 : ∀ wx, Below wr.heap.size wr wx → wx.cell? ⟨bl, ol + k * 5 + 1, none⟩ = some (.bool nl) := fun wx hx => cellk hx (fa _ _ (g0 1 _ rfl))
        have c2 : ∀ wx, Below wr.heap.size wr wx → wx.cell? ⟨bl, ol + k * 5 + 2, none⟩ = some (.int .i64 m) := fun wx hx => cellk hx (fa _ _ (g0 2 _ rfl))
        have c3 : ∀ wx, Below wr.heap.size wr wx → wx.cell? ⟨bl, ol + k * 5 + 3, none⟩ = some (.string tx) := fun wx hx => cellk hx (fa _ _ (g0 3 _ rfl))
        have c4 : ∀ wx, Below wr.heap.size wr wx → wx.cell? ⟨bl, ol + k * 5 + 4, none⟩ = some (.bool bv) := fun wx hx => cellk hx (fa _ _ (g0 4 _ rfl))
        have d0 : ∀ wx, Below wr.heap.size wr wx → wx.cell? ⟨bs, os + k * 5, none⟩ = some (.int .i64 (ty : Int)) := fun wx hx => cellk hx (fb _ _ (g1 0 _ rfl))
        have d1 : ∀ wx, Below wr.heap.size wr wx → wx.cell? ⟨bs, os + k * 5 + 1, none⟩ = some (.bool nl) := fun wx hx => cellk hx (fb _ _ (g1 1 _ rfl))
        have d2 : ∀ wx, Below wr.heap.size wr wx → wx.cell? ⟨bs, os + k * 5 + 2, none⟩ = some (.int .i64 m) := fun wx hx => cellk hx (fb _ _ (g1 2 _ rfl))
        have d3 : ∀ wx, Below wr.heap.size wr wx → wx.cell? ⟨bs, os + k * 5 + 3, none⟩ = some (.string tx) := fun wx hx => cellk hx (fb _ _ (g1 3 _ rfl))
        have d4 : ∀ wx, Below wr.heap.size wr wx → wx.cell? ⟨bs, os + k * 5 + 4, none⟩ = some (.bool bv) := fun wx hx => cellk hx (fb _ _ (g1 4 _ rfl))
        have cB : ∀ wx, Below wr.heap.size wr wx → Calls Tryz.prog 29 #[.agg #[.int .i64 (ty : Int), .bool nl, .int .i64 m, .string tx, .bool bv]] wx (fun e w'' => e = .returned (.agg #[.int .u8 (ty : Int), .bool nl, .int .i64 m, .string tx, .bool bv]) ∧ Below wr.heap.size wr w'') := fun wx hx => (back_any ty nl m tx bv hty1 wx).mono fun e w'' ⟨he, hb⟩ => ⟨he, hx.trans (hb.mono hx.size)⟩
        have hE : ∀ wx, Below wr.heap.size wr wx → Below w.heap.size w wx := fun wx hx => hB.trans (hx.mono hB.size)
        replace c0 := Lib.hid c0
        replace c1 := Lib.hid c1
        replace c2 := Lib.hid c2
        replace c3 := Lib.hid c3
        replace c4 := Lib.hid c4
        replace d0 := Lib.hid d0
        replace d1 := Lib.hid d1
        replace d2 := Lib.hid d2
        replace d3 := Lib.hid d3
        replace d4 := Lib.hid d4
        replace cB := Lib.hid cB
        replace hE := Lib.hid hE
        clear hB fa fb g0 g1 hty1
        go_upto_region 6 with fail
        have hlN : k < n := hlt
        refine wp_region_quietC (C := fun w' => Below wr.heap.size wr w') (by kernel_rfl) (by kernel_rfl) (below_drew (Below.refl _ _)) ?_
        iterate 3 (go_big_quiet_want; go_big_quiet_op; first | go_big_quiet_on | (refine ⟨_, fun _ _ => rfl, ?_⟩; go_big_quiet_on))
        go_big_quiet_want; go_big_quiet_op
        refine ⟨.agg #[.int .u8 (ty : Int), .bool nl, .int .i64 m, .string tx, .bool bv], fun wx hx => by simp [go_sem, c0.out wx hx, c1.out wx hx, c2.out wx hx, c3.out wx hx, c4.out wx hx], ?_⟩
        go_big_quiet_on
        iterate 3 (go_big_quiet_want; go_big_quiet_op; first | go_big_quiet_on | (refine ⟨_, fun _ _ => rfl, ?_⟩; go_big_quiet_on))
        go_big_quiet_want; go_big_quiet_op
        refine ⟨.agg #[.int .i64 (ty : Int), .bool nl, .int .i64 m, .string tx, .bool bv], fun wx hx => by simp [go_sem, d0.out wx hx, d1.out wx hx, d2.out wx hx, d3.out wx hx, d4.out wx hx], ?_⟩
        go_big_quiet_on
        go_big_quiet_want; go_big_quiet_op
        refine ⟨.agg #[.int .u8 (ty : Int), .bool nl, .int .i64 m, .string tx, .bool bv], fun wx hx => cB.out wx hx, ?_⟩
        go_big_quiet_on
        go_big_quiet_want; go_big_quiet_op
        refine ⟨.bool false, fun wx hx => by simp [go_sem], ?_⟩
        go_big_quiet_on
        refine wpQuiet_nil ?_
        intro w' hw'
        have hF := hE.out _ hw'
        replace hF := Lib.hid hF
        clear hw' c0 c1 c2 c3 c4 d0 d1 d2 d3 d4 cB hE
        go_wp2_with fail
        go_roundw
        case rel => exact ⟨k + 1, by omega, by go_num, hF.out⟩
        case measure => simp [RowKit.intOf]; omega
      · have hkI : ¬ (k : Int) < n := by omega
        have hF := hfin.out wr hB
        replace hF := Lib.hid hF
        clear hB
        go_wp2_with fail
        first | exact hF.out | (go_ret; exact hF.out)
  rw [← hn]
  exact hg
end Go.Proofs.YtpjbcadelmjmfaaGreatDoor
