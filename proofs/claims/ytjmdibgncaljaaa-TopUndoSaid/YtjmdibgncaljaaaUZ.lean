/- Walks: the law TopUndo. -/
import Derived.Test.YtjmdibgncaljaaaU3
import Derived.Deep.LoopGhost
namespace Go.Proofs.Ytjmdibgncaljaaa
open Go.RowKit Go.BigFrame Dev
theorem infoSv : (Try.prog.info? 76).map (fun i => (i.zero, i.size, i.bytes)) = some (some (.slice none 0 0), 1, 24) := by kernel_rfl
def WdC (A : World) (WF : List Nat) (v : Value) (w' : World) : Prop := (∃ a c, v = .slice a 56 c ∧ Rd w' v 56 (u64s WF)) ∧ Below A.heap.size A w'
set_option maxHeartbeats 8000000 in
set_option maxRecDepth 100000 in
theorem undo_walk (rs : List (List CS)) (v : Value) (W : World) (hv : RoundsV W v rs) : Calls Try.prog 4 #[v] W (RP W (.bool true)) := by
  generalize hpost : RP W (.bool true) = post
  replace hpost := Lib.hid hpost
  obtain ⟨a0, c0, vs, rfl, hc0, hm0, hvl, hrv, hvk, hvs⟩ := hv
  obtain ⟨n0, hn0⟩ : ∃ n0, rs.length = n0 := ⟨_, rfl⟩
  rw [hn0] at hc0 hm0 hvl hrv ⊢
  have hnew := new_any W (fun _ => none) 0 10 (by decide) (by decide)
  rw [show ((10 : Nat) : Int) = 10 from rfl] at hnew
  replace hnew := Lib.hid hnew
  replace hrv := Lib.hid hrv
  replace hvs := Lib.hid hvs
  replace hvk := Lib.hid hvk
  replace hn0 := Lib.hid hn0
  replace hvl := Lib.hid hvl
  go_enter Try.func4, Try.ntmps4
  go_wp2_with fail
  refine hnew.out.mono ?_
  rintro e w1 ⟨L, F, rfl, hD1, hX1, hB1⟩
  have hF1 : ∀ k, k < W.heap.size → (F.trim w1) k = none := fun k hk => by
    unfold Own.trim
    split
    · exact hX1 k hk
    · rfl
  have hF1n : ∀ k, w1.heap.size ≤ k → (F.trim w1) k = none := fun k hk => F.trim_new w1 hk
  have hD1 := hD1.trim
  generalize F.trim w1 = F1 at hF1 hF1n hD1
  obtain ⟨R0, hR0⟩ : ∃ R0, newP 10 = R0 := ⟨_, rfl⟩
  have h10 := new10
  rw [hR0] at hD1 h10
  obtain ⟨hun0, hz0, hO0, hv0⟩ := h10
  have hth := thread_in hD1 (t := 0) (by decide)
  have hop := uopen_any hD1 hO0.len
  replace hD1 := Lib.hid hD1
  replace hth := Lib.hid hth
  replace hop := Lib.hid hop
  replace hF1 := Lib.hid hF1
  replace hF1n := Lib.hid hF1n
  replace hB1 := Lib.hid hB1
  replace hun0 := Lib.hid hun0
  replace hz0 := Lib.hid hz0
  replace hO0 := Lib.hid hO0
  replace hv0 := Lib.hid hv0
  clear hnew hX1 hR0
  go_wp2_with fail
  refine hth.out.mono ?_
  rintro e w' ⟨rfl, rfl⟩
  go_wp2_with fail
  refine hop.out.mono ?_
  rintro e w2 ⟨rfl, hlg2, hB2⟩
  obtain ⟨lb, hlb⟩ : ∃ lb, lb = w1.heap.size := ⟨_, rfl⟩
  rw [← hlb] at hlg2 ⊢
  have hcap := ucap_any hlg2
  have hD2 : DevSt w2 F1 0 L 0 R0 := hD1.out.below hB2
  obtain ⟨w3, hw3, hB3, hU3, hD3⟩ := u_new hD2 lb
  obtain ⟨ub, hub⟩ : ∃ ub, ub = w2.heap.size := ⟨_, rfl⟩
  rw [← hub] at hU3
  have hwd := uwords_any hD3 hO0.out (.pointer (some ⟨ub, 0, none⟩))
  replace hwd := Lib.hid hwd
  replace hU3 := Lib.hid hU3
  replace hB3 := Lib.hid hB3
  replace hD3 := Lib.hid hD3
  replace hcap := Lib.hid hcap
  replace hlg2 := Lib.hid hlg2
  replace hB2 := Lib.hid hB2
  replace hw3 := Lib.hid hw3
  replace hlb := Lib.hid hlb
  clear hth hop hD1 hD2
  go_wp2_with fail
  refine hcap.out.mono ?_
  rintro e w' ⟨rfl, rfl⟩
  clear hcap
  go_upto_region 8 with fail
  rw [hw3.out, ← hub]
  replace hub := Lib.hid hub
  go_wp2_with fail
  refine hwd.out.mono ?_
  rintro e w4 ⟨oa, oc, rfl, hR4⟩
  obtain ⟨hU4, ob, rfl, w5, hw5, hO5, hb5, hB25, hF5⟩ := law_start hF1n.out hlb.out hB2.out hlg2.out hub.out hB3.out hU3.out hD3.out hR4 hun0.out hz0.out hO0.out hv0.out
  have u2 := hU4.cell (o := 2) rfl
  have g2 := hU4.free 2
  have hBW5 : Below W.heap.size W w5 := (hB1.out.trans (hB2.out.mono hB1.out.size)).trans (hB25.mono (Nat.le_trans hB1.out.size hB2.out.size))
  have hubW : W.heap.size ≤ ub := by
    have e1 := hB1.out.size
    have e2 := hB2.out.size
    have e3 := hub.out
    omega
  replace hw5 := Lib.hid hw5
  replace hO5 := Lib.hid hO5
  replace hb5 := Lib.hid hb5
  replace hF5 := Lib.hid hF5
  replace hBW5 := Lib.hid hBW5
  replace hubW := Lib.hid hubW
  clear hwd hR4 hU4 hU3 hB3 hD3 hlg2 hB2 hw3 hlb hub hB25 hun0 hz0 hv0 hF1n hB1
  go_upto_region 9 with fail
  rw [hw5.out]
  clear u2 g2 hw5
  obtain ⟨m, hm⟩ : ∃ m, m = min 2 rs.length := ⟨_, rfl⟩
  have hm2 : m ≤ n0 ∧ m ≤ 2 := by rw [hm, hn0.out]; omega
  have hmi : (if 2 < n0 then 2 else n0) = m := by rw [hm, hn0.out]; split <;> omega
  have hmi2 : (if (2 : Int) < (n0 : Int) then (2 : Int) else (n0 : Int)) = (m : Int) := by rw [hm, hn0.out]; split <;> omega
  have hmi3 : min (2 : Int) (n0 : Int) = (m : Int) := by rw [hm, hn0.out]; omega
  have hmi4 : min (n0 : Int) (2 : Int) = (m : Int) := by rw [hm, hn0.out]; omega
  have hcs := fun wx => cutS1 a0 n0 c0 m hm2.1 hc0 wx
  obtain ⟨w8, hw8⟩ : ∃ w8, ((w5.alloc (.cells #[.int .u8 3] 5)).alloc (.cells #[.slice (some ⟨w5.heap.size, 0, none⟩) 1 1, .int .u64 5] 75)).alloc (.cells #[.slice (some ⟨w5.heap.size + 1, 0, none⟩) 1 1] 76) = w8 := ⟨_, rfl⟩
  have h58 : Below w5.heap.size w5 w8 := by
    rw [← hw8]
    exact (((Below.refl _ _).alloc (Nat.le_refl _) _).alloc (by rw [World.size_alloc]; omega) _).alloc (by rw [World.size_alloc, World.size_alloc]; omega) _
  have hr8 : Rd w8 (.slice a0 m c0) m (vs.take m) := ((hrv.out.kept hBW5.out).kept h58).prefV (hvl.out) hm2.1
  have hB8 : Has w8 (w5.heap.size + 1 + 1) [.slice (some ⟨w5.heap.size + 1, 0, none⟩) 1 1] 76 := by
    have := Has.new ((w5.alloc (.cells #[.int .u8 3] 5)).alloc (.cells #[.slice (some ⟨w5.heap.size, 0, none⟩) 1 1, .int .u64 5] 75)) [.slice (some ⟨w5.heap.size + 1, 0, none⟩) 1 1] 76
    rw [World.size_alloc, World.size_alloc] at this
    rw [← hw8]; exact this
  have hown := own_has (cap := 1) (n := 1) hB8 rfl (by decide) rfl
  have hvl8 : (vs.take m).length = m * 1 := by rw [List.length_take, hvl.out, Nat.mul_one]; omega
  have hv1 : ∀ u ∈ vs.take m, u.oneCell' = true := fun u hu => by
    obtain ⟨a, n, c, rfl⟩ := hvk.out u (List.mem_of_mem_take hu)
    rfl
  replace hw8 := Lib.hid hw8
  replace h58 := Lib.hid h58
  replace hr8 := Lib.hid hr8
  replace hown := Lib.hid hown
  replace hvl8 := Lib.hid hvl8
  replace hv1 := Lib.hid hv1
  replace hm := Lib.hid hm
  clear hB8
  iterate 12 go_step
  rw [hw8.out]
  go_wp2_with (at_builtin; refine wpList_appAll rfl (.tmp 62) (.tmp 67) 63 rfl 76 (.slice none 0 0) 1 24 Try.underlying63 infoSv rfl (by decide) (by decide) (some ⟨w5.heap.size + 1 + 1, 0, none⟩) 1 1 (Nat.le_refl _) [.slice (some ⟨w5.heap.size + 1, 0, none⟩) 1 1] hown.out rfl a0 m c0 (vs.take m) rfl hr8.out hvl8.out hv1.out (by omega) ?_; intro ga gc w9 hcap9 own9 only9 fresh9; obtain ⟨mm, hmm⟩ : ∃ mm, 1 + m = mm := ⟨_, rfl⟩; rw [hmm] at hcap9 own9 fresh9 ⊢; replace hmm := Lib.hid hmm)
  rw [← hmm.out] at own9 fresh9
  have hout : ∀ k, (Mine F1 0 k ∨ k = ub) → W.heap.size ≤ k := fun k hm => by
    rcases hm with ⟨r, e⟩ | e
    · rcases Nat.lt_or_ge k W.heap.size with g | g
      · rw [hF1.out k g] at e; cases e
      · exact g
    · rw [e]; exact hubW.out
  replace hout := Lib.hid hout
  obtain ⟨gr, rfl, hO9, hb9, hA9⟩ := law_start2 (rs := rs) hO5.out hb5.out hBW5.out hF1.out hF5.out hubW.out hw8.out hm.out own9 only9 fresh9 (by rw [hvl.out, hn0.out]) hvs.out
  have hBW9 : Below W.heap.size W w9 := hBW5.out.trans ((h58.out.trans (only9.below (Nat.le_trans h58.out.size (Nat.le_refl _)) (fun k _ e => by
    simp only [Value.ownBlock, Option.some.injEq] at e
    omega))).mono hBW5.out.size)
  have hmm := hmm.out
  have hrl : (rowsL rs).length = mm := by rw [rowsL_len, ← hm.out]; omega
  have hmm3 : mm ≤ 3 := by omega
  have hmm1 : 0 < mm := by omega
  replace hO9 := Lib.hid hO9
  replace hb9 := Lib.hid hb9
  replace hA9 := Lib.hid hA9
  replace hBW9 := Lib.hid hBW9
  replace hrl := Lib.hid hrl
  replace hmm1 := Lib.hid hmm1
  generalize rowsL rs = rl at hA9 hrl
  clear hO5 hb5 hBW5 hF1 hF5 hubW hw8 hm own9 only9 fresh9 hvs hvl hvk hvl8 hv1 hown hr8 h58 hcs hmi hmi2 hmi3 hmi4 hm2 hcap9 hrv hn0 hmm hc0 hm0
  go_loopg [71] (mm + 1) (fun g s71 wr => ∃ (k : Nat) (f : Nat → Nat) (T : Nat) (R : Dv) (F' : Dev.Own) (ob oc : Nat) (nv : Value), k ≤ mm ∧ mm - k < g ∧ s71 = .int .i64 (k : Int) ∧ T ≤ 200 * k ∧ OutI w9 F1 L ub lb f T R F' ob oc nv wr ∧ (0 < k → nv = .slice (some ⟨ob, 0, none⟩) 56 oc))
  case atStart => exact ⟨0, fun _ => 0, 0, R0, F1, ob, oc, _, by omega, by omega, rfl, by omega, hO9.out, fun h => absurd h (by decide)⟩
  case round =>
    clear hO9
    obtain ⟨k, f, T, R, F', ob, oc, nv, hk, hg, rfl, hT, hO, hnv⟩ := hrel
    by_cases hkn : k = mm
    · subst hkn
      obtain rfl := hnv hmm1.out
      have hwds : ∀ wx, Below wr.heap.size wr wx → Calls Try.prog 23 #[.pointer (some ⟨ub, 0, none⟩), .pointer (some ⟨L.g, 0, none⟩)] wx (RowPost wx 27 1 56 (u64s (wordsF f))) := fun wx hb => (hO.below hb).wds _
      have hnew : ∀ wx, Below wr.heap.size wr wx → Rd wx (.slice (some ⟨ob, 0, none⟩) 56 oc) 56 (u64s (wordsF f)) ∧ wx.cell? ⟨ub, 3, none⟩ = some (.slice (some ⟨ob, 0, none⟩) 56 oc) := fun wx hb => ⟨(hO.below hb).ro.rd (wordsF_len _), (hO.below hb).u.cell (o := 3) rfl⟩
      have hfin : ∀ wx, Below wr.heap.size wr wx → post (.returned (.bool true)) wx := fun wx hb => by
        rw [← hpost.out]
        exact ⟨rfl, hBW9.out.trans ((hO.below hb).k.y.below hBW9.out.size (fun k _ hm => hout.out k hm))⟩
      obtain ⟨WF, hWF⟩ : ∃ WF, wordsF f = WF := ⟨_, rfl⟩
      have hwl : WF.length = 56 := by rw [← hWF]; exact wordsF_len f
      rw [hWF] at hwds hnew
      replace hwds := Lib.hid hwds
      replace hnew := Lib.hid hnew
      replace hfin := Lib.hid hfin
      replace hwl := Lib.hid hwl
      clear hO hWF hA9 hb9 hT hrl
      go_upto_region 42 with fail
      refine wp_region_call2 2 7 [] [] (C0 := fun w' => Below wr.heap.size wr w') (C1 := WdC wr WF) (C2 := fun _ u w' => u = .bool true ∧ Below wr.heap.size wr w') (by kernel_rfl) (by kernel_rfl) (by decide) (by decide) (by kernel_rfl) (by kernel_rfl) (by kernel_rfl) ((Below.refl _ _).drew) (fun wx hx => ?_) (fun v wx hx => ?_) (fun v u hx => ?_)
      · obtain ⟨e, w', va, vc, _, hw⟩ := Calls.ex (hwds.out wx hx)
        exact ⟨_, w', ⟨va, vc, rfl, hw.rd⟩, hx.trans (hw.b.mono hx.size)⟩
      · obtain ⟨⟨va, vc, rfl, hr⟩, hb⟩ := hx
        exact ⟨.bool true, wx, rfl, hb⟩
      · obtain ⟨w', rfl, hb⟩ := hx
        refine lex_chunk 0 2 0 _ _ (fun _ _ => Nat.zero_le _) (by kernel_rfl) (fun j hj => by unfold rk2; rw [if_neg (by omega), if_neg (by omega)]) (by decide) ?_
        simp only [List.take_succ_cons, List.take_zero, List.drop_succ_cons, List.drop_zero]
        repeat (first | go_big_quiet_skip | (go_big_quiet_want; go_big_quiet_op; first | go_big_quiet_on | (refine ⟨_, fun _ _ => rfl, ?_⟩; go_big_quiet_on)))
        refine wpQuiet_nil ?_
        refine lex_call (r := 0) (v := v) rfl (by go_simp; exact rfl) rfl (by kernel_rfl) (fun wx hx => ?_) ?_
        · replace hx : Below wr.heap.size wr wx := hx
          refine callUpon_mk (f := 23) (args := #[.pointer (some ⟨ub, 0, none⟩), .pointer (some ⟨L.g, 0, none⟩)]) (by simp [go_sem]) ?_
          exact (hwds.out wx hx).mono fun e w'' ⟨va, vc, he, hw⟩ => ⟨_, he, ⟨va, vc, rfl, hw.rd⟩, hx.trans (hw.b.mono hx.size)⟩
        have cI0 : ∀ wx, clsAt (cls2 (fun w' => Below wr.heap.size wr w') (WdC wr WF) (fun _ u w' => u = .bool true ∧ Below wr.heap.size wr w')) [v, .bool true] 0 wx → wx.cell? ⟨ub, 3, none⟩ = some (.slice (some ⟨ob, 0, none⟩) 56 oc) := fun wx hx => (hnew.out wx (by
          rcases cls2_at0 hx with h | h | h
          · exact h
          · exact h.2
          · exact h.2)).2
        replace cI0 := Lib.hid cI0
        refine lex_chunk 0 4 _ _ _ (fun _ _ => Nat.zero_le _) (by kernel_rfl) (fun j hj => by unfold rk2; rw [if_neg (by omega), if_neg (by omega)]) (by decide) ?_
        simp only [List.take_succ_cons, List.take_zero, List.drop_succ_cons, List.drop_zero]
        iterate 3 (go_big_quiet_want; go_big_quiet_op; first | go_big_quiet_on | (refine ⟨_, fun _ _ => rfl, ?_⟩; go_big_quiet_on))
        go_big_quiet_want
        go_big_quiet_op
        refine ⟨.slice (some ⟨ob, 0, none⟩) 56 oc, fun wx hx => by simp [go_sem, cI0.out wx hx], ?_⟩
        go_big_quiet_on
        refine wpQuiet_nil ?_
        refine lex_call (r := 1) (v := .bool true) rfl (by go_simp; exact rfl) rfl (by kernel_rfl) (fun wx hx => ?_) ?_
        · obtain ⟨⟨va, vc, rfl, hr⟩, hb⟩ : (∃ a c, v = .slice a 56 c ∧ Rd wx v 56 (u64s WF)) ∧ Below wr.heap.size wr wx := hx
          refine callUpon_mk (f := 30) (args := #[.slice va 56 vc, .slice (some ⟨ob, 0, none⟩) 56 oc]) (by simp [go_sem]) ?_
          have he := equalU_any WF WF 56 hwl.out hwl.out (by decide) va (some ⟨ob, 0, none⟩) vc oc wx hr (hnew.out wx hb).1
          rw [decide_eq_true rfl] at he
          exact he.mono fun e w'' ⟨h1, h2⟩ => ⟨_, h1, rfl, hb.trans (h2.mono hb.size)⟩
        refine lex_chunk 0 1 _ _ _ (fun _ _ => Nat.zero_le _) (by kernel_rfl) (fun j hj => by unfold rk2; rw [if_neg (by omega), if_neg (by omega)]) (by decide) ?_
        simp only [List.take_succ_cons, List.take_zero, List.drop_succ_cons, List.drop_zero]
        repeat (first | go_big_quiet_skip | (go_big_quiet_want; go_big_quiet_op; first | go_big_quiet_on | (refine ⟨_, fun _ _ => rfl, ?_⟩; go_big_quiet_on)))
        refine wpQuiet_nil ?_
        intro wz hz
        have hf := Lib.hid (hfin.out wz hz.2)
        clear hz cI0 hwds hnew hfin hb
        simp only [Exit.then]
        go_wp2_with fail
        first | exact hf.out | (go_ret; exact hf.out)
    · have hlt : k < mm := by omega
      have hT9 : T ≤ 600 := by omega
      obtain ⟨l, hl⟩ : ∃ l, rl[k]? = some l := ⟨_, List.getElem?_eq_getElem (by rw [hrl.out]; exact hlt)⟩
      obtain ⟨sa, sc, hsv⟩ := hA9.out k l hl
      have hce := (hsv wr hO.k.y).1
      have hcl := hO.clone
      have v2 := hO.u.cell (o := 2) rfl
      have hszk := hO.k.y.size
      obtain ⟨g1, hg1⟩ : ∃ g1, g1 = gk - 1 := ⟨_, rfl⟩
      have hg1m := Lib.hid (show g1 < gk from by omega)
      have hgk : mm - (k + 1) < g1 := by omega
      obtain ⟨q, hq⟩ : ∃ q, l.length = q := ⟨_, rfl⟩
      rw [hq] at hce hsv
      replace hO := Lib.hid hO
      replace hcl := Lib.hid hcl
      replace hsv := Lib.hid hsv
      replace hszk := Lib.hid hszk
      replace hgk := Lib.hid hgk
      replace hT := Lib.hid hT
      replace hq := Lib.hid hq
      go_wp2_with fail
      refine hcl.out.mono ?_
      rintro e w2 ⟨na, nc, rfl, own2, hb2, hne2⟩
      have hO2 := hO.out.below hb2
      have v3 := hO2.u.cell (o := 3) rfl
      have g3 := hO2.u.free 3
      obtain ⟨nb, F2, rfl, hM⟩ := hO.out.mid hb9.out hb2 own2 hne2
      obtain ⟨w3, hw3⟩ : ∃ w3, w2.setCell ⟨ub, 3, none⟩ (.slice (some ⟨nb, 0, none⟩) 56 nc) = w3 := ⟨_, rfl⟩
      rw [hw3] at hM
      obtain ⟨m3, hm3⟩ : ∃ m3, m3 = min 3 q := ⟨_, rfl⟩
      have hm32 : m3 ≤ q ∧ m3 ≤ 3 := by rw [hm3]; omega
      have hmi : (if 3 < q then 3 else q) = m3 := by rw [hm3]; split <;> omega
      have hmi2 : (if (3 : Int) < (q : Int) then (3 : Int) else (q : Int)) = (m3 : Int) := by rw [hm3]; split <;> omega
      have hmi3 : min (3 : Int) (q : Int) = (m3 : Int) := by rw [hm3]; omega
      have hmi4 : min (q : Int) (3 : Int) = (m3 : Int) := by rw [hm3]; omega
      obtain ⟨hqc, hq9⟩ : q ≤ sc ∧ q ≤ 9223372036854775807 := by
        obtain ⟨a', c', ps, e, h1, h2, _⟩ := (hsv.out w3 hM.k.y).2
        simp only [Value.slice.injEq] at e
        omega
      have hcs := fun wx => cutS2 sa q sc m3 hm32.1 hqc wx
      replace hw3 := Lib.hid hw3
      replace hM := Lib.hid hM
      replace hm3 := Lib.hid hm3
      clear hcl own2 hb2 hne2 hO2 v2 hO hce
      go_upto_region 14 with fail
      rw [hw3.out]
      clear v3 g3 hw3
      go_wp2_with fail
      have hj0 := Lib.hid (show T ≤ 200 * k + 40 * 0 from by have := hT.out; omega)
      go_loopg [89] (m3 + 1) (fun g s89 wr => ∃ (j : Nat) (f' : Nat → Nat) (E : List (Nat × Nat)) (T' : Nat) (R' : Dv) (F' : Dev.Own), j ≤ m3 ∧ m3 - j < g ∧ s89 = .int .i64 (j : Int) ∧ T' ≤ 200 * k + 40 * j ∧ MidI w9 F1 L ub lb f f f' f' E T' R' F' ob oc nb nc wr)
      case atStart => exact ⟨0, f, [], T, R, F2, by omega, by omega, rfl, hj0.out, hM.out⟩
      case round =>
        clear hM hj0 hcs hmi hmi2 hmi3 hmi4 hT
        obtain ⟨j, f', E, T', R', F', hj, hg2, rfl, hT2, hM⟩ := hrel
        by_cases hjm : j = m3
        · subst hjm
          have hpc := hM.planc hb9.out
          have hMh := Lib.hid hM
          replace hpc := Lib.hid hpc
          clear hM
          go_wp2_with fail
          refine hpc.out.mono ?_
          rintro e w4 ⟨pa, pc, ps, rfl, hrp, hb4, hps⟩
          have hM4 := hMh.out.below hb4
          obtain ⟨pn, hpn⟩ : ∃ pn, ps.length = pn := ⟨_, rfl⟩
          rw [hpn] at hrp ⊢
          have hco := hM4.com hb9.out (by omega) (n := pn) hpn.symm hrp hps
          replace hco := Lib.hid hco
          clear hM4 hrp hb4 hps hpc hMh hpn
          go_wp2_with fail
          refine hco.out.mono ?_
          rintro e w5 ⟨T5, R5, F5, rfl, hT5, hM5, hs5⟩
          have hal := hM5.all
          replace hal := Lib.hid hal
          replace hM5 := Lib.hid hM5
          clear hs5 hco
          go_wp2_with fail
          refine hal.out.mono ?_
          rintro e w6 ⟨rfl, hb6⟩
          have hM6 := hM5.out.below hb6
          have hsv6 := hM6.saved hb9.out
          replace hsv6 := Lib.hid hsv6
          replace hM6 := Lib.hid hM6
          clear hal hM5 hb6
          go_wp2_with fail
          refine hsv6.out.mono ?_
          rintro e w7 ⟨ta, tc, rfl, hR7⟩
          have hM7 := hM6.out.below hR7.b
          have v2 := hM7.u.cell (o := 2) rfl
          have v3 := hM7.u.cell (o := 3) rfl
          have g2 := hM7.u.free 2
          have hO := hM7.fin hb9.out
          have hfr := Lib.hid (show OutI w9 F1 L ub lb f' T5 R5 F5 nb nc (.slice (some ⟨nb, 0, none⟩) 56 nc) (w7.setCell ⟨ub, 2, none⟩ (.slice (some ⟨nb, 0, none⟩) 56 nc)) ∧ T5 ≤ 200 * (k + 1) from ⟨hO, by omega⟩)
          have hkw : IntKind.i64.wrap ((k : Int) + 1) = (k : Int) + 1 := IntWalk.i64_in _ (by omega)
          clear hsv6 hM6 hR7 hM7 hO hT5
          go_wp2_with fail
          go_roundg g1
          case measure => exact hg1m.out
          case rel => exact ⟨k + 1, f', T5, R5, F5, nb, nc, _, by omega, hgk.out, by simp, hfr.out.2, hfr.out.1, fun _ => rfl⟩
        · have hlt2 : j < m3 := by omega
          have hFn : ∀ k, wr.heap.size ≤ k → F'.trim wr k = none := fun k hk => F'.trim_new wr hk
          have hM := hM.trim
          generalize F'.trim wr = F' at hM hFn
          have hT3 : T' ≤ 800 := by omega
          obtain ⟨g2, hg2e⟩ : ∃ g2, g2 = gk - 1 := ⟨_, rfl⟩
          have hg2m := Lib.hid (show g2 < gk from by omega)
          have hgj : m3 - (j + 1) < g2 := by omega
          obtain ⟨⟨xs, xv⟩, hx⟩ : ∃ x, l[j]? = some x := ⟨_, List.getElem?_eq_getElem (by rw [hq.out]; omega)⟩
          obtain ⟨bl, ol, y, rfl, hby, hxv, hc1, hc2⟩ := (hsv.out wr hM.k.y).2.at hx
          obtain ⟨ya, yc, rfl, hyc, hy9, hyb, hyr⟩ := hby
          simp only at hxv hc2 hyc hy9 hyb hyr hc1
          obtain ⟨nw, hnw⟩ : ∃ nw, xs.length = nw := ⟨_, rfl⟩
          rw [hnw] at hc1 hyc hy9 hyr
          obtain ⟨xb, hxb⟩ : ∃ xb, xb = wr.heap.size := ⟨_, rfl⟩
          obtain ⟨w4, hw4⟩ : ∃ w4, wr.alloc (.cells #[.slice ya nw yc, .int .u64 (xv : Int)] 75) = w4 := ⟨_, rfl⟩
          have hB4 : Below wr.heap.size wr w4 := by rw [← hw4]; exact (Below.refl _ _).alloc (Nat.le_refl _) _
          have hX4 : Has w4 xb [.slice ya nw yc, .int .u64 (xv : Int)] 75 := by rw [← hw4, hxb]; exact Has.new wr _ _
          have hM4 := hM.below hB4
          have x0 := hX4.cell (o := 0) rfl
          have hyr4 := hyr.kept hB4
          have hs4 : xb < w4.heap.size := hX4.lt
          have hnbx : nb < xb := by rw [hxb]; exact hM.rn.lt
          obtain ⟨p3, hp3⟩ : ∃ p3, p3 = min 3 nw := ⟨_, rfl⟩
          have hp32 : p3 ≤ nw ∧ p3 ≤ 3 := by rw [hp3]; omega
          have hni : (if 3 < nw then 3 else nw) = p3 := by rw [hp3]; split <;> omega
          have hni2 : (if (3 : Int) < (nw : Int) then (3 : Int) else (nw : Int)) = (p3 : Int) := by rw [hp3]; split <;> omega
          have hni3 : min (3 : Int) (nw : Int) = (p3 : Int) := by rw [hp3]; omega
          have hni4 : min (nw : Int) (3 : Int) = (p3 : Int) := by rw [hp3]; omega
          have hcs := fun wx => cutS3 ya nw yc p3 hp32.1 hyc wx
          have hOl : (offL xs).length = p3 := by rw [offL_len', hnw, hp3]
          have hst0 := Lib.hid (RowB.nil w4 27 1)
          replace hxb := Lib.hid hxb.symm
          replace hw4 := Lib.hid hw4
          replace hB4 := Lib.hid hB4
          replace hX4 := Lib.hid hX4
          replace hM4 := Lib.hid hM4
          replace hyr4 := Lib.hid hyr4
          replace hyb := Lib.hid hyb
          replace hT2 := Lib.hid hT2
          replace hgj := Lib.hid hgj
          replace hs4 := Lib.hid hs4
          replace hnbx := Lib.hid hnbx
          replace hx := Lib.hid hx
          replace hOl := Lib.hid hOl
          replace hp3 := Lib.hid hp3
          replace hFn := Lib.hid hFn
          replace hnw := Lib.hid hnw
          clear hM hyr
          go_upto_region 18 with fail
          rw [hw4.out, hxb.out]
          clear hw4
          go_wp2_with fail
          go_loopg [11, 101] (p3 + 1) (fun g s11 s101 wx => ∃ (i : Nat) (oa : Option Addr) (oe : Nat), i ≤ p3 ∧ p3 - i < g ∧ s101 = .int .i64 (i : Int) ∧ s11 = .slice oa i oe ∧ RowB w4 27 1 i (u64s ((offL xs).take i)) oa oe wx)
          case atStart => exact ⟨0, none, 0, by omega, by omega, rfl, rfl, hst0.out⟩
          case round =>
            clear hst0 hcs hni hni2 hni3 hni4 x0
            obtain ⟨i, oa, oe, hi, hg3, rfl, rfl, hP⟩ := hrel
            by_cases hip : i = p3
            · subst hip
              have htk : (offL xs).take i = offL xs := List.take_of_length_le (Nat.le_of_eq hOl.out)
              rw [htk] at hP
              obtain ⟨offs, hof⟩ : ∃ offs, offL xs = offs := ⟨_, rfl⟩
              have hok := offL_ok xs
              rw [hof] at hP hok
              have hol : offs.length = i := by rw [← hof]; exact hOl.out
              have hM5 := hM4.out.below hP.b
              have hrO := hP.rd
              have hpl := hM5.plan2 hb9.out (by omega) offs (by omega) hok (ra := oa) (rc := oe) (by rw [hol]; exact hrO)
              rw [hol] at hpl
              have hb45 := hP.b
              have hoB := hP.ob
              replace hM5 := Lib.hid hM5
              replace hpl := Lib.hid hpl
              replace hrO := Lib.hid hrO
              replace hok := Lib.hid hok
              replace hol := Lib.hid hol
              replace hb45 := Lib.hid hb45
              replace hoB := Lib.hid hoB
              have hX5 := Lib.hid (hX4.out.only (Only.of_below hb45.out) (Nat.not_le.2 hs4.out))
              clear hP htk hof hM4 hX4 hyr4 hOl
              go_wp2_with fail
              refine hpl.out.mono ?_
              rintro e w6 ⟨hb6, hcase⟩
              have hM6 := Lib.hid (hM5.out.below hb6)
              have hrO6 := Lib.hid (hrO.out.kept hb6)
              have hX6 := Lib.hid (hX5.out.only (Only.of_below hb6) (Nat.not_le.2 hX5.out.lt))
              clear hpl hM5 hrO hX5 hb6
              rcases hcase with rfl | ⟨pa, pn, pc, rfl, hrun⟩
              · have hrel := hM6.out
                have hT4 : T' ≤ 200 * k + 40 * (j + 1) := by have := hT2.out; omega
                have hjw : IntKind.i64.wrap ((j : Int) + 1) = (j : Int) + 1 := IntWalk.i64_in _ (by omega)
                have hfr := Lib.hid (show MidI w9 F1 L ub lb f f f' f' E T' R' F' ob oc nb nc w6 ∧ T' ≤ 200 * k + 40 * (j + 1) from ⟨hrel, hT4⟩)
                clear hrel hT4 hM6 hrO6 hX6
                go_wp2_with fail
                go_roundg g2
                case measure => exact hg2m.out
                case rel => exact ⟨j + 1, f', E, T', R', F', by omega, hgj.out, by simp, hfr.out.2, hfr.out.1⟩
              · obtain ⟨E2, hE2⟩ : ∃ E2, E ++ freshF R' E offs = E2 := ⟨_, rfl⟩
                have hcov := fresh_all R' E offs
                rw [hE2] at hrun hcov
                replace hrun := Lib.hid hrun
                replace hcov := Lib.hid hcov
                clear hM6 hE2
                go_wp2_with fail
                refine hrun.out.mono ?_
                rintro e w7 ⟨T7, R7, F7, rfl, hT7, hM7, hs7⟩
                have hX7 := Lib.hid (hX6.out.only hs7.only (fun ⟨r, e⟩ => by rw [hFn.out xb (Nat.le_of_eq hxb.out)] at e; cases e))
                have hrO7 := Lib.hid (hrO6.out.only hs7.only (fun z hz ⟨r, e⟩ => by rw [hFn.out z (Nat.le_trans hB4.out.size (hoB.out z hz))] at e; cases e))
                have hF7 : ∀ k, w7.heap.size ≤ k → F7.trim w7 k = none := fun k hk => F7.trim_new w7 hk
                have hM7 := hM7.trim
                generalize F7.trim w7 = F7 at hM7 hF7
                have hT8 := Lib.hid (show T7 ≤ 200 * k + 40 * j + 32 from by have := hT2.out; omega)
                have hMr0 := Lib.hid hM7
                have hF7 := Lib.hid hF7
                clear hM7 hs7 hX6 hrO6 hrun hT7 hT2
                go_wp2_with fail
                go_loopg [16, 132] (i + 1) (fun g s16 s132 wx => ∃ (t : Nat) (sa : Option Addr) (sc : Nat), t ≤ i ∧ i - t < g ∧ s132 = .int .i64 (t : Int) ∧ s16 = .slice sa t sc ∧ (t = 0 → sa = none ∧ sc = 0) ∧ StR w7 nb (((datL offs xv).take t).map stI) t sa sc wx ∧ MidI w9 F1 L ub lb f f (updF f' ((datL offs xv).take t)) f' E2 T7 R7 F7 ob oc nb nc wx)
                case atStart => exact ⟨0, none, 0, by omega, by omega, rfl, rfl, fun _ => ⟨rfl, rfl⟩, StR.nil w7 nb, hMr0.out⟩
                case round =>
                  clear hMr0
                  obtain ⟨t, ta, tc, ht, hg4, rfl, rfl, ht0, hS, hMx⟩ := hrel
                  by_cases hti : t = i
                  · subst hti
                    have htk : (datL offs xv).take t = datL offs xv := List.take_of_length_le (by rw [datL_len]; exact Nat.le_of_eq hol.out)
                    rw [htk] at hS hMx
                    have hdl : (datL offs xv).length = t := by rw [datL_len]; exact hol.out
                    have hda := hMx.dat hb9.out (by have := hT8.out; omega) (fun p hp => ⟨hok.out _ (datL_mem p hp).1, hcov.out _ (datL_mem p hp).1, (datL_mem p hp).2⟩) (by omega) (n := t) hdl.symm (Rd.of_own hS.o) (fun e => ht0 (by rw [← hdl, e]; rfl))
                    replace hda := Lib.hid hda
                    have hjw : IntKind.i64.wrap ((j : Int) + 1) = (j : Int) + 1 := IntWalk.i64_in _ (by omega)
                    clear hS hMx htk hX7 hrO7 hF7 hcov
                    go_wp2_with fail
                    refine hda.out.mono ?_
                    rintro e w8 ⟨T9, R9, F9, rfl, hT9b, hM9, hs9⟩
                    have hfr := Lib.hid (show MidI w9 F1 L ub lb f f (updF f' (datL offs xv)) (updF f' (datL offs xv)) E2 T9 R9 F9 ob oc nb nc w8 ∧ T9 ≤ 200 * k + 40 * (j + 1) from ⟨hM9, by have := hT8.out; omega⟩)
                    clear hda hM9 hs9 hT9b
                    go_wp2_with fail
                    go_roundg g2
                    case measure => exact hg2m.out
                    case rel => exact ⟨j + 1, updF f' (datL offs xv), E2, T9, R9, F9, by omega, hgj.out, by simp, hfr.out.2, hfr.out.1⟩
                  · have hlt4 : t < i := by omega
                    have hgt : i - (t + 1) < gk - 1 := by omega
                    have hrOx := hrO7.out.only hS.y (fun z hz e => by have := hoB.out z hz; have := hs4.out; have := hnbx.out; omega)
                    have hXx := hX7.out.only hS.y (fun e => by have := hnbx.out; omega)
                    obtain ⟨gb, go, off, rfl, hoff, hcb⟩ := getU64 hrOx hol.out t hlt4
                    have c0 := hcb wr (Below.refl _ _)
                    have hoo := hok.out off (List.mem_of_getElem? hoff)
                    have hdt := datL_take (v := xv) (show t < offs.length by rw [hol.out]; exact hlt4)
                    rw [List.getD_eq_getElem?_getD, hoff, Option.getD_some] at hdt
                    obtain ⟨val, hval⟩ : ∃ val, (xv + t) % 18446744073709551616 = val := ⟨_, rfl⟩
                    rw [hval] at hdt
                    have hvl : val < 18446744073709551616 := by rw [← hval]; exact Nat.mod_lt _ (by decide)
                    have hvw : IntKind.u64.wrap ((xv : Int) + (t : Int)) = (val : Int) := by
                      rw [← hval]; simp [IntKind.wrap, IntKind.bits, IntKind.signed]
                    obtain ⟨wa, hwa⟩ : ∃ wa, wr.alloc (.cells #[.int .u8 1, .int .u64 (off : Int), .int .u64 (val : Int)] 85) = wa := ⟨_, rfl⟩
                    have hSa := hS.alloc (.cells #[.int .u8 1, .int .u64 (off : Int), .int .u64 (val : Int)] 85)
                    have hNa := Has.new wr [.int .u8 1, .int .u64 (off : Int), .int .u64 (val : Int)] 85
                    have hba : Below wr.heap.size wr wa := by rw [← hwa]; exact (Below.refl _ _).alloc (Nat.le_refl _) _
                    have hMa := hMx.below hba
                    have ho3 := hSa.o
                    rw [hwa] at hSa
                    have hXa := hXx.only (Only.of_below hba) (Nat.not_le.2 hXx.lt)
                    have x1 := hXx.cell (o := 1) rfl
                    have htw : IntKind.u64.wrap (t : Int) = (t : Int) := IntWalk.u64_in _ (by omega)
                    have hby3 : (t + 1) * 24 ≤ 140737488355328 := by omega
                    obtain ⟨PS, hPS⟩ : ∃ PS, (datL offs xv).take t = PS := ⟨_, rfl⟩
                    rw [hPS] at hSa hMa ho3 hdt
                    obtain ⟨CS', hCS⟩ : ∃ CS', inCells (PS.map stI) = CS' := ⟨_, rfl⟩
                    rw [hCS] at ho3
                    replace hSa := Lib.hid hSa
                    replace hMa := Lib.hid hMa
                    replace hXa := Lib.hid hXa
                    replace hdt := Lib.hid hdt
                    replace hwa := Lib.hid hwa
                    replace hval := Lib.hid hval
                    replace hvl := Lib.hid hvl
                    replace hPS := Lib.hid hPS
                    replace hCS := Lib.hid hCS
                    clear hS hMx hrOx hXx hcb hoff hba
                    go_upto_region 31 with fail
                    go_wp2_with (at_builtin; refine wpList_app rfl (.tmp 137) (.tmp 145) 79 rfl 85 (.agg #[.int .u8 0, .int .u64 0, .int .u64 0]) 3 24 Try.underlying79 infoIn rfl (by decide) (by decide) ta t tc CS' (by exact ho3) rfl _ 1 1 [.int .u8 1, .int .u64 (off : Int), .int .u64 (val : Int)] rfl rfl (by exact newsIn hNa) (by simp [Value.oneCell']) (by exact hby3) ?_)
                    intro ta' tc' w6b own6 only6 fresh6
                    rw [hwa.out] at only6
                    have hso := hSa.out.app (qs := (PS ++ [(off, val)]).map stI) (by rw [inCells_st, hCS.out]; exact own6) only6 (fun z hz => by
                      rw [← hwa.out, World.size_alloc]
                      exact fresh6 z hz)
                    obtain ⟨hS6, hon6⟩ := hso
                    have hM6b := hMa.out.past hon6 hF7.out (Nat.lt_of_lt_of_le (show nb < xb from hnbx.out) (Nat.le_of_lt hX7.out.lt))
                    have hX6b := hXa.out.only only6 (fun e => by
                      have h1 := hSa.out.ob _ e
                      have h2 := hX7.out.lt
                      omega)
                    have y1 := hX6b.cell (o := 1) rfl
                    have v3 := hM6b.u.cell (o := 3) rfl
                    obtain ⟨tl, hNb⟩ := hM6b.rn
                    have hd56 : off / 8 - 24 < 56 ∧ off / 8 < 80 ∧ 24 ≤ off / 8 := by have := okOff_iff.1 hoo; omega
                    have gfree := hNb.free (off / 8 - 24)
                    have hcur : ∃ c, w6b.cell? ⟨nb, off / 8 - 24, none⟩ = some c := by
                      refine ⟨_, hNb.cell (List.getElem?_eq_getElem ?_)⟩
                      rw [List.length_append, u64s_len, wordsF_len]; omega
                    obtain ⟨cc, hcur⟩ := hcur
                    have hset := hM6b.setN val hoo
                    have hS7 := hS6.set (Nat.lt_trans (show nb < xb from hnbx.out) hX7.out.lt) (off / 8 - 24) (.int .u64 (val : Int))
                    obtain ⟨z8, hz8⟩ : ∃ z8, off / 8 = z8 := ⟨_, rfl⟩
                    obtain ⟨d, hd⟩ : ∃ d, z8 - 24 = d := ⟨_, rfl⟩
                    have ht8 : ((off : Int).tdiv 8) = (z8 : Int) := by rw [Int.tdiv_eq_ediv_of_nonneg (by omega)]; omega
                    have hd8 : ((off : Int) / 8) = (z8 : Int) := by omega
                    have hsw : IntKind.u64.wrap ((z8 : Int) - 24) = (d : Int) := by rw [IntWalk.u64_in _ (by omega)]; omega
                    have hdn : d < 56 := by omega
                    have hdi : (d : Int) < 56 := by omega
                    have hz8w : IntKind.u64.wrap (z8 : Int) = (z8 : Int) := IntWalk.u64_in _ (by omega)
                    have hz80 : z8 < 80 := by omega
                    rw [hz8, hd] at gfree hcur hset hS7
                    have hPe : updF f' (PS ++ [(off, val)]) = fun x => if x = off then val else updF f' PS x := updF_snoc _ _ _
                    rw [← hPe] at hset
                    rw [← hdt.out] at hset hS7
                    replace hset := Lib.hid hset
                    replace hS7 := Lib.hid hS7
                    clear own6 only6 fresh6 hS6 hon6 hM6b hX6b hNb hPe hSa hMa hXa ho3 hNa hd56 x1 c0 hwa hdt hz8 hd hz80
                    have hiw : IntKind.i64.wrap ((t : Int) + 1) = (t : Int) + 1 := IntWalk.i64_in _ (by omega)
                    go_upto_region 32 with fail
                    refine region_tail 13 (by kernel_rfl) (by kernel_rfl) ?_
                    simp only [List.take_succ_cons, List.take_zero, List.drop_succ_cons, List.drop_zero]
                    repeat still_step
                    refine wpStill_nil ?_
                    go_wp2_with fail
                    go_roundg (gk - 1)
                    case measure => omega
                    case rel => exact ⟨t + 1, ta', tc', by omega, hgt, by simp, rfl, fun h => absurd h (by omega), hS7.out.drew, hset.out.below ((Below.refl _ _).drew)⟩
            · have hlt3 : i < p3 := by omega
              have hgi : p3 - (i + 1) < gk - 1 := by omega
              obtain ⟨yb, yo, b, rfl, hxb8, hcb⟩ := getU8 hyr4.out hnw.out i (by omega)
              have hb8 := hyb.out b (List.mem_of_getElem? hxb8)
              have htk := offL_take hxb8 (by omega : i < 3)
              have hcy := hcb wr hP.b
              clear hcb hxb8
              have er : ((b : Int).tmod 56) = ((b % 56 : Nat) : Int) := by rw [Int.tmod_eq_emod_of_nonneg (by omega)]; omega
              obtain ⟨o, ho⟩ : ∃ o, 192 + 8 * (b % 56) = o := ⟨_, rfl⟩
              obtain ⟨r, hr⟩ : ∃ r, b % 56 = r := ⟨_, rfl⟩
              have hr56 : r < 56 := by omega
              rw [ho] at htk
              rw [hr] at er ho
              have er2 : ((b : Int) % 56) = (r : Int) := by omega
              have k8 := IntWalk.u8_in (r : Int) (by omega)
              obtain ⟨PS, hPS⟩ : ∃ PS, (offL xs).take i = PS := ⟨_, rfl⟩
              rw [hPS] at hP htk
              have hb3 := (Below.refl wr.heap.size wr).alloc (Nat.le_refl _) (.cells #[.int .u64 (192 + 8 * (r : Int))] 27)
              have hP3 := hP.below hb3
              have hN3 := Has.new wr [.int .u64 (192 + 8 * (r : Int))] 27
              have ho3 := hP3.o
              have hby3 : (i + 1) * 8 ≤ 140737488355328 := by omega
              have hiw : IntKind.i64.wrap ((i : Int) + 1) = (i : Int) + 1 := IntWalk.i64_in _ (by omega)
              replace hP3 := Lib.hid hP3
              replace htk := Lib.hid htk
              replace ho := Lib.hid ho
              replace hr := Lib.hid hr
              clear hP hb3 hPS
              go_wp2_with (at_builtin; refine wpList_app rfl (.tmp 105) (.tmp 111) 70 rfl 27 (.int .u64 0) 1 8 Try.underlying70 infoU64 rfl (by decide) (by decide) oa i oe (u64s PS) (by exact ho3) rfl _ 1 1 [.int .u64 (192 + 8 * (r : Int))] rfl rfl (by exact newsIn hN3) (by simp [Value.oneCell']) (by exact hby3) ?_)
              intro oa' oe' w6 own6 only6 fresh6
              have hP6 : RowB w4 27 1 (i + 1) (u64s ((offL xs).take (i + 1))) oa' oe' w6 := by
                rw [htk.out, show u64s (PS ++ [o]) = u64s PS ++ [.int .u64 (192 + 8 * (r : Int))] from by unfold u64s; rw [List.map_append, ← ho.out]; simp]
                exact hP3.out.app own6 only6 (fun j hj => by have := fresh6 j hj; simpa using this)
              replace hP6 := Lib.hid hP6
              clear hP3 own6 only6 fresh6 hN3 ho3 hby3 hcy
              go_wp2_with fail
              go_roundg (gk - 1)
              case measure => omega
              case rel => exact ⟨i + 1, oa', oe', by omega, hgi, by simp, rfl, hP6.out⟩
end Go.Proofs.Ytjmdibgncaljaaa
