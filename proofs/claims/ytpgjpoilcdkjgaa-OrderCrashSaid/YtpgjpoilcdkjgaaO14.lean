/- The walk of run.execute: write back. -/
import Derived.Test.YtpgjpoilcdkjgaaO13
namespace Go.Proofs.Ytpgjpoilcdkjgaa
open Go.RowKit Go.Maps

def Rn.withMd (R : Rn) (md : List Nat) : Rn := { R with G := { R.G with md := md } }
theorem RunSt.mdset {w w' : World} {B cb mb T : Nat} {R : Rn} {md : List Nat} (h : RunSt w B cb mb T R) (ok' : (R.withMd md).Ok T) (ho : Only (fun k => k = mb) w w') (hm : Has w' mb (nats md) 3) : RunSt w' B cb mb T (R.withMd md) := by
  have hcm := h.cm
  obtain ⟨wa, wc, ra, rc, h1, h2, h3, h4, h5, h6⟩ := h.ex
  have hm2 : mb < B + 2 ∧ mb ≠ cb := by omega
  refine ⟨ok', h.cm, h.rb.only ho (by omega), ⟨wa, wc, ra, rc, h1.only ho (by omega), ownsRow_only h2 ho ?_, ownsRow_only h3 ho ?_, h4, h5, h6⟩,
    h.ct.only ho (by omega), hm, h.cv.only ho (by omega), fun t ht => (h.nv t ht).only ho (by omega)⟩
  · rintro k hk rfl; have := h4 _ hk; omega
  · rintro k hk rfl; have := h5 _ hk; omega

set_option maxHeartbeats 4000000 in
set_option maxRecDepth 100000 in
theorem exec5 (B cb mb T line n : Nat) (vt vv vd vc : Value) (R : Rn) (w : World) (h : RunSt w B cb mb T R) (hT : T + 1 ≤ 20000) (hln : line < 4096) (hn : n ≤ 2147483647) :
    Calls Try.prog 42 #[.pointer (some ⟨B + 4, 0, none⟩), .agg #[.int .u8 5, vt, .int .u64 0, vv, vd, .int .i64 line, .int .i64 n, vc]] w
      (ExPost w B cb mb T (if line < R.G.n ∧ (n : Int) ≤ (R.G.ct.getD line 0 : Int) - (R.G.md.getD line 0 : Int) then backP R line n else R)) := by
  have ok := h.ok
  have hn2 := ok.n2
  have hsz := h.size
  have hcm := h.cm
  have hA := h.alloc (.cells #[.int .u8 5, vt, .int .u64 0, vv, vd, .int .i64 line, .int .i64 n, vc] 65)
  have r0 := hA.rb.cell (o := 0) rfl
  obtain ⟨wa, wc, ra, rc, hg, _⟩ := hA.ex
  have g0 := hg.cell (o := 0) rfl
  have g3 := hg.cell (o := 3) rfl
  have g4 := hg.cell (o := 4) rfl
  have hE := Has.new w [.int .u8 5, vt, .int .u64 0, vv, vd, .int .i64 line, .int .i64 n, vc] 65
  have e0 := hE.cell (o := 0) rfl
  have e2 := hE.cell (o := 2) rfl
  have hd0 : decide ((0 : Int) < (R.G.n : Int) * 64) = true := decide_eq_true (by have := ok.n1; omega)
  have hdI : (0 : Int) < (R.G.n : Int) * 64 := by have := ok.n1; omega
  have e5 := hE.cell (o := 5) rfl
  have e6 := hE.cell (o := 6) rfl
  have hBa : Below B w (w.alloc (.cells #[.int .u8 5, vt, .int .u64 0, vv, vd, .int .i64 line, .int .i64 n, vc] 65)) := (Below.refl _ _).alloc (by omega) _
  clear hg
  by_cases hin : line < R.G.n
  · have hl : line < R.G.ct.length := by rw [ok.cl]; omega
    have hl2 : line < R.G.md.length := by rw [ok.ml]; omega
    have hcc := hA.ct.cell (o := line) (nats_get R.G.ct _ _ (get_of_lt 0 hl))
    have hmm := hA.md.cell (o := line) (nats_get R.G.md _ _ (get_of_lt 0 hl2))
    have hmf := hA.md.free line
    have hms := hA.md.set line (.int .i64 ((R.G.md.getD line 0 + n : Nat) : Int))
    have hcb := ok.cb _ (mem_getD 0 hl)
    have hmc := ok.mc line
    have hTT := ok.t
    have hd1 : decide ((line : Int) < (R.G.n : Int)) = true := decide_eq_true (by omega)
    have hd1' : decide (line < R.G.n) = true := decide_eq_true hin
    have hlI : (line : Int) < (R.G.n : Int) := by omega
    have hl0 : (0 : Int) ≤ (line : Int) := by omega
    by_cases hle : (n : Int) ≤ (R.G.ct.getD line 0 : Int) - (R.G.md.getD line 0 : Int)
    · rw [if_pos ⟨hin, hle⟩]
      have okb : (R.withMd (R.G.md.set line (R.G.md.getD line 0 + n))).Ok T := backP_ok ok hin (by omega)
      have hbp : backP R line n = R.withMd (R.G.md.set line (R.G.md.getD line 0 + n)) := rfl
      rw [hbp]
      generalize hpost : ExPost w B cb mb T (R.withMd (R.G.md.set line (R.G.md.getD line 0 + n))) = post
      have hend : ∀ w', RunSt w' B cb mb (T + 1) (R.withMd (R.G.md.set line (R.G.md.getD line 0 + n))) → Below B w w' → post (.returned (.tuple #[])) w' := by
        intro w' p1 p2; rw [← hpost]; exact ⟨rfl, p1, p2⟩
      have hfin := fun w' O h => hend w' ((RunSt.mdset hA okb O h).up hT)
      have hnl : nats (R.G.md.set line (R.G.md.getD line 0 + n)) = (nats R.G.md).set line (.int .i64 ((R.G.md.getD line 0 + n : Nat) : Int)) := by
        unfold nats; rw [List.map_set]
      rw [hnl] at hfin
      replace hfin := Lib.hid hfin
      clear hpost hend hbp hnl okb
      generalize R.G.ct.getD line 0 = cv at *
      generalize R.G.md.getD line 0 = mv at *
      have hd2 : decide ((n : Int) ≤ (cv : Int) - (mv : Int)) = true := decide_eq_true hle
      replace hin := Lib.hid hin
      go_enter Try.func42, Try.ntmps42
      go_wp2_with fail
      go_quiet (fail)
      go_wp2_with fail
      go_quiet (fail)
      go_wp2_with fail
      refine region_tail 12 (by kernel_rfl) (by kernel_rfl) ?_
      simp only [List.take_succ_cons, List.take_zero, List.drop_succ_cons, List.drop_zero]
      repeat still_step
      refine wpStill_nil ?_
      go_wp2_with fail
      refine bodyPost_end (results_none rfl _ _ _) rfl (hfin.out _ (((Only.refl (fun k => k = mb) _).drewN _).setCell (fun _ => rfl) _) ?_ (hBa.trans ((((Only.refl (fun k => k = mb) _).drewN _).setCell (fun _ => rfl) _).below (by simp; omega) (by rintro k _ rfl; omega))))
      rw [show ((mv + n : Nat) : Int) = (mv : Int) + n by omega]
      exact (hA.md.drewN _).set line _
    · rw [if_neg (fun h => hle h.2)]
      generalize hpost : ExPost w B cb mb T R = post
      have hend : ∀ w', RunSt w' B cb mb (T + 1) R → Below B w w' → post (.returned (.tuple #[])) w' := by
        intro w' p1 p2; rw [← hpost]; exact ⟨rfl, p1, p2⟩
      have hx := Lib.hid (fun n => hend _ ((hA.up hT).drewN n) (below_drewN hBa n))
      clear hpost hend hms
      generalize R.G.ct.getD line 0 = cv at *
      generalize R.G.md.getD line 0 = mv at *
      have hd2 : decide ((n : Int) ≤ (cv : Int) - (mv : Int)) = false := decide_eq_false hle
      replace hin := Lib.hid hin
      go_enter Try.func42, Try.ntmps42
      go_wp2_with fail
      go_quiet (fail)
      go_wp2_with fail
      go_quiet (fail)
      go_wp2_with fail
      first | exact hx.out _ | (rw [World.drewN_drewN]; exact hx.out _) | exact bodyPost_end (results_none rfl _ _ _) rfl (hx.out _) | (refine bodyPost_end (results_none rfl _ _ _) rfl ?_; rw [World.drewN_drewN]; exact hx.out _)
  · rw [if_neg (fun h => hin h.1)]
    have hd1 : decide ((line : Int) < (R.G.n : Int)) = false := decide_eq_false (by omega)
    have hd1' : decide (line < R.G.n) = false := decide_eq_false hin
    generalize hpost : ExPost w B cb mb T R = post
    have hend : ∀ w', RunSt w' B cb mb (T + 1) R → Below B w w' → post (.returned (.tuple #[])) w' := by
      intro w' p1 p2; rw [← hpost]; exact ⟨rfl, p1, p2⟩
    have hx := Lib.hid (fun n => hend _ ((hA.up hT).drewN n) (below_drewN hBa n))
    clear hpost hend
    go_enter Try.func42, Try.ntmps42
    go_wp2_with fail
    go_quiet (fail)
    go_wp2_with fail
    try (go_quiet (fail))
    go_wp2_with fail
    first | exact hx.out _ | (rw [World.drewN_drewN]; exact hx.out _) | exact bodyPost_end (results_none rfl _ _ _) rfl (hx.out _) | (refine bodyPost_end (results_none rfl _ _ _) rfl ?_; rw [World.drewN_drewN]; exact hx.out _)
end Go.Proofs.Ytpgjpoilcdkjgaa
