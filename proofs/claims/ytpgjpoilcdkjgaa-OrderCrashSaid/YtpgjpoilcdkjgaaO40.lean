/- The walk of OrderCuts. -/
import Derived.Test.YtpgjpoilcdkjgaaO39
import Derived.Test.YtpgjpoilcdkjgaaQ8
import Derived.Test.YtpgjpoilcdkjgaaO33
import Derived.Test.YtpgjpoilcdkjgaaO41
import Derived.IntWalk
namespace Go.Proofs.Ytpgjpoilcdkjgaa
open Go.RowKit
attribute [local go_sem] Oper.semAt_some
theorem Rd.past {w w' : World} {S : Nat → Prop} {v : Value} {n : Nat} {cs : List Value} (hr : Rd w v n cs) (ho : Only S w w') (h2 : cs.length = 0 ∨ 2 ≤ cs.length) (hS : ∀ k, S k → ∃ x T, Has w k [x] T) : Rd w' v n cs := by
  obtain ⟨a, cap, rfl, hr⟩ := hr
  refine ⟨a, cap, rfl, ?_⟩
  rcases hr with hr | ⟨b, off, rfl, hr⟩
  · exact .inl hr
  · refine .inr ⟨b, off, rfl, fun j u hj => ho.cell (hr j u hj) (fun hb => ?_)⟩
    rcases h2 with h2 | h2
    · rw [List.length_eq_zero_iff.1 h2] at hj; cases hj
    · obtain ⟨x, T, hx⟩ := hS b hb
      have c1 := hr 1 _ (List.getElem?_eq_getElem (by omega))
      unfold Has at hx
      simp only [World.cell?, hx] at c1
      simp at c1
theorem sCells_len (l : List RSt) : (sCells l).length = 4 * l.length := by
  induction l with
  | nil => rfl
  | cons s r ih => show (s.cells ++ sCells r).length = _; rw [List.length_append, ih, List.length_cons]; show 4 + _ = _; omega
theorem cnt_both {G : Gr} (ok : G.Ok) (hc : G.Count) : ∃ (cv : Nat) (fl : Bool), cntV (cntP G G.n) = .tuple #[.int .u64 (cv : Int), .bool fl] ∧ cntV (rcnt (stf G)) = .tuple #[.int .u64 (cv : Int), .bool fl] ∧ 1 ≤ cv ∧ cv ≤ 4611686018427387904 ∧ (cv = prodB (bsG G) G.n ∨ (cv = 4611686018427387904 ∧ 4611686018427387904 < prodB (bsG G) G.n)) := by
  have hp := prodB_pos (bsG_pos G) G.n
  rw [rcnt_eq ok hc, cntP_prod]
  by_cases h : prodB (bsG G) G.n ≤ 4611686018427387904
  · rw [if_pos h]; exact ⟨_, true, rfl, rfl, hp, h, .inl rfl⟩
  · rw [if_neg h]; exact ⟨4611686018427387904, false, rfl, rfl, by decide, Nat.le_refl _, .inr ⟨rfl, Nat.not_le.1 h⟩⟩
set_option maxHeartbeats 4000000 in
set_option maxRecDepth 100000 in
theorem cuts_walk (acs : List Ac) (hf : ∀ a ∈ acs, a.Fit) (aa : Option Addr) (cap : Nat) (W : World) (hr : Rd W (.slice aa acs.length cap) acs.length (acCells acs)) (hll : acs.length ≤ 9223372036854775807)
    (lim stop : Int) (hl1 : -9223372036854775808 ≤ lim ∧ lim ≤ 9223372036854775807) (hs1 : -9223372036854775808 ≤ stop ∧ stop ≤ 9223372036854775807) :
    Calls Try.prog 10 #[.slice aa acs.length cap, .int .i64 lim, .int .i64 stop] W (BoolPost W true) := by
  generalize hpost : BoolPost W true = post
  replace hpost := Lib.hid hpost
  obtain ⟨W0, hW0⟩ : ∃ W0, W0 = ((W.alloc (.cells #[.int .i64 lim] 3)).alloc (.cells #[.int .i64 stop] 3)).alloc (.cells #[.bool false] 4) := ⟨_, rfl⟩
  have hb0 : Below W.heap.size W W0 := by rw [hW0]; exact (((Below.refl _ _).alloc (Nat.le_refl _) _).alloc (by simp) _).alloc (by simp; omega) _
  have hLm : Has W0 W.heap.size [.int .i64 lim] 3 := by rw [hW0]; exact ((Has.new W [.int .i64 lim] 3).alloc _).alloc _
  have hSt : Has W0 (W.heap.size + 1) [.int .i64 stop] 3 := by
    have := (Has.new (W.alloc (.cells #[.int .i64 lim] 3)) [.int .i64 stop] 3).alloc (.cells #[.bool false] 4)
    rw [World.size_alloc] at this
    rw [hW0]; exact this
  have hRs : Has W0 (W.heap.size + 1 + 1) [.bool false] 4 := by
    have := Has.new ((W.alloc (.cells #[.int .i64 lim] 3)).alloc (.cells #[.int .i64 stop] 3)) [.bool false] 4
    rw [World.size_alloc, World.size_alloc] at this
    rw [hW0]; exact this
  have hr0 := hr.kept (hb0.mono (Nat.le_refl _))
  replace hW0 := Lib.hid hW0
  replace hb0 := Lib.hid hb0
  replace hLm := Lib.hid hLm
  replace hSt := Lib.hid hSt
  replace hRs := Lib.hid hRs
  clear hr
  refine calls_of_marks Try.func10 rfl ?_
  simp only [Try.ntmps10, List.size_toArray, List.length_cons, List.length_nil, Nat.reduceAdd, Nat.reduceSub, Array.replicate_succ, Array.replicate_zero, List.push_toArray, List.append_toArray, List.nil_append, List.cons_append]
  go_wp2_with fail
  rw [← hW0.out]
  refine (awake_any W0).mono ?_
  rintro e w1 ⟨rfl, hB1⟩
  have hev := events_any acs hf aa cap 30 (by omega) w1 (hr0.kept hB1) hll
  have hel := evs_len acs 30
  have heg := evs_good acs hf 30
  generalize evs (acs.take 30) = es at *
  replace hev := Lib.hid hev
  replace hB1 := Lib.hid hB1
  clear hr0
  go_wp2_with fail
  refine hev.out.mono ?_
  rintro e w2 ⟨oa, oc, sa, sc, rfl, hRo, hRs2, hB2⟩
  obtain ⟨N, hN⟩ : ∃ N, N = (refRunP 4 es).out.length := ⟨_, rfl⟩
  rw [← hN] at hRs2 ⊢
  have hBa := hB1.out.trans (hB2.mono hB1.out.size)
  obtain ⟨w3, hw3⟩ : ∃ w3, w3 = w2.alloc (.cells #[.slice sa N sc] 25) := ⟨_, rfl⟩
  have hB3 : Below w2.heap.size w2 w3 := by rw [hw3]; exact (Below.refl _ _).alloc (Nat.le_refl _) _
  have hWt : Has w3 w2.heap.size [.slice sa N sc] 25 := by rw [hw3]; exact Has.new w2 [.slice sa N sc] 25
  have hnew := new_at 4 es oa oc w3 (by omega) (by omega) (by omega) (hRo.kept hB3) heg
  have hRs3 := hRs2.kept hB3
  have hBb := hBa.trans (hB3.mono hBa.size)
  rw [hw3] at hnew
  replace hnew := Lib.hid hnew
  replace hw3 := Lib.hid hw3
  replace hN := Lib.hid hN
  replace hWt := Lib.hid hWt
  replace hRs3 := Lib.hid hRs3
  replace hBb := Lib.hid hBb
  have hBb2 := Lib.hid (show W0.heap.size ≤ w2.heap.size from hBa.size)
  have hBb3 := Lib.hid (show W0.heap.size ≤ w3.heap.size from hBb.out.size)
  clear hev hB1 hB2 hRo hRs2 hBa hB3
  go_wp2_with fail
  refine hnew.out.mono ?_
  rw [← hw3.out]
  rintro e w4 ⟨g, rfl, hG, hB4⟩
  have hGa := hG.st
  have st := start es (by omega) heg hGa
  have hRs4 := hRs3.out.kept hB4
  have hWt4 := hWt.out.only (Only.of_below hB4) (Nat.not_le.2 hWt.out.lt)
  have hBc := hBb.out.trans (hB4.mono hBb.out.size)
  have hout := st.out
  rw [hout] at hRs4
  generalize (runP 4 es).G = G at *
  have hN' : (stf G).length = N := by rw [← hout, hN.out]
  have hwl : N ≤ 20000 := by rw [← hN', stf_length]; exact st.ok.wl
  obtain ⟨cv, fl, hcv1, hcv2, hcvp, hcvm, hcvP⟩ := cnt_both st.ok st.cg
  have hcnt := refcount_any sa sc (stf G) N hN' w4 hRs4 hwl
  unfold CountPost at hcnt
  rw [hcv2] at hcnt
  have hc1 := fun wx (h : GraphSt wx g G) => count_any g G wx h
  rw [hcv1] at hc1
  have c4w := hWt4.cell (o := 0) rfl
  replace hcnt := Lib.hid hcnt
  replace hc1 := Lib.hid hc1
  replace hWt4 := Lib.hid hWt4
  replace hRs4 := Lib.hid hRs4
  replace hG := Lib.hid hG
  replace hBc := Lib.hid hBc
  replace hN' := Lib.hid hN'
  replace hcvP := Lib.hid hcvP
  replace hout := Lib.hid hout
  replace hcv1 := Lib.hid hcv1
  replace hcv2 := Lib.hid hcv2
  clear hnew hB4 hRs3 hBb hGa
  go_wp2_with fail
  refine hcnt.out.mono ?_
  rintro e w5 ⟨rfl, hB5⟩
  obtain ⟨w6, hw6⟩ : ∃ w6, w6 = w5.alloc (.cells #[.int .u64 (cv : Int)] 42) := ⟨_, rfl⟩
  have hB56 : Below w5.heap.size w5 w6 := by rw [hw6]; exact (Below.refl _ _).alloc (Nat.le_refl _) _
  have hNb : Has w6 w5.heap.size [.int .u64 (cv : Int)] 42 := by rw [hw6]; exact Has.new w5 [.int .u64 (cv : Int)] 42
  have hB46 : Below w4.heap.size w4 w6 := hB5.trans (hB56.mono hB5.size)
  have hG6 := hG.out.only (Only.of_below hB46) (fun k _ h => Nat.not_le.2 h)
  have hRs6 := hRs4.out.kept hB46
  have hWt6 := hWt4.out.only (Only.of_below hB46) (Nat.not_le.2 hWt4.out.lt)
  have hBd := hBc.out.trans (hB46.mono hBc.out.size)
  have hc6 := hc1.out w6 hG6.st
  rw [hw6] at hc6
  replace hc6 := Lib.hid hc6
  replace hw6 := Lib.hid hw6
  have hBb5 := Lib.hid (show W0.heap.size ≤ w5.heap.size from Nat.le_trans hBc.out.size hB5.size)
  clear hcnt hc1 hB5 hB56 hB46 c4w hG hRs4 hWt4 hBc
  go_wp2_with fail
  refine hc6.out.mono ?_
  rw [← hw6.out]
  rintro e w7 ⟨rfl, m7, hw7⟩
  have hNb7 : Has w7 w5.heap.size [.int .u64 (cv : Int)] 42 := hw7 ▸ hNb
  have hG7 : GraphAt w7 w3.heap.size g G := hw7 ▸ hG6.only ((Only.refl (fun _ => False) w6).drewN m7) (fun _ _ _ h => h)
  have hRs7 : Rd w7 (.slice sa N sc) N (sCells (stf G)) := hw7 ▸ hRs6.drewN m7
  have hWt7 : Has w7 w2.heap.size [.slice sa N sc] 25 := hw7 ▸ hWt6
  have hBe : Below W0.heap.size W0 w7 := hw7 ▸ below_drewN hBd m7
  replace hw7 := Lib.hid hw7
  have cN7 := hNb7.cell (o := 0) rfl
  have hLm7 := hLm.out.only (Only.of_below hBe) (Nat.not_le.2 hLm.out.lt)
  have hSt7 := hSt.out.only (Only.of_below hBe) (Nat.not_le.2 hSt.out.lt)
  have hRt7 := hRs.out.only (Only.of_below hBe) (Nat.not_le.2 hRs.out.lt)
  have cL7 := hLm7.cell (o := 0) rfl
  have fL7 := hLm7.free 0
  obtain ⟨lm, hlm2⟩ : ∃ lm : Int, lm = min lim 200 := ⟨_, rfl⟩
  have hlm3 : (if (200 : Int) < lim then (200 : Int) else lim) = lm := by
    by_cases h : (200 : Int) < lim
    · rw [if_pos h]; omega
    · rw [if_neg h]; omega
  have hlm4 : min lim 200 = lm := hlm2.symm
  have hlm5 : lm ≤ 200 ∧ -9223372036854775808 ≤ lm := by omega
  obtain ⟨mx, hmx⟩ : ∃ mx : Int, mx = max stop 1 := ⟨_, rfl⟩
  have hmx3 : (if stop < 1 then (1 : Int) else stop) = mx := by
    by_cases h : stop < 1
    · rw [if_pos h]; omega
    · rw [if_neg h]; omega
  have hmx4 : max stop 1 = mx := hmx.symm
  have hmx5 : (if (1 : Int) < stop then stop else (1 : Int)) = mx := by
    by_cases h : (1 : Int) < stop
    · rw [if_pos h]; omega
    · rw [if_neg h]; omega
  obtain ⟨sp, hsp2⟩ : ∃ sp : Int, sp = min mx 200 := ⟨_, rfl⟩
  have hsp3 : (if (200 : Int) < mx then (200 : Int) else mx) = sp := by
    by_cases h : (200 : Int) < mx
    · rw [if_pos h]; omega
    · rw [if_neg h]; omega
  have hsp4 : min mx 200 = sp := hsp2.symm
  have hsp5 : 1 ≤ sp ∧ sp ≤ 200 := by omega
  have hLm8 := hLm7.set 0 (.int .i64 lm)
  have hSt8 := hSt7.set_ne (a := ⟨W.heap.size, 0, none⟩) (by simp) (.int .i64 lm)
  have cS8 := hSt8.cell (o := 0) rfl
  have fS8 := hSt8.free 0
  replace hlm2 := Lib.hid hlm2
  replace hmx := Lib.hid hmx
  replace hsp2 := Lib.hid hsp2
  clear hc6 hNb hG6 hRs6 hWt6 hBd
  obtain ⟨w8, hw8⟩ : ∃ w8, w8 = ((w7.setCell ⟨W.heap.size, 0, none⟩ (.int .i64 lm)).setCell ⟨W.heap.size + 1, 0, none⟩ (.int .i64 sp)).alloc (.cells #[.int .u64 0] 42) := ⟨_, rfl⟩
  have hL8 : Has w8 W.heap.size [.int .i64 lm] 3 := by rw [hw8]; exact ((hLm8.set_ne (a := ⟨W.heap.size + 1, 0, none⟩) (by simp) (.int .i64 sp))).alloc _
  have cL8 := hL8.cell (o := 0) rfl
  rw [hw8] at cL8
  replace hw8 := Lib.hid hw8
  go_wp2_with fail
  rw [← hw8.out]
  refine (call_cuts _ _ _).mono ?_
  rintro e w9 ⟨rfl, hB9, hg1, hg2⟩
  obtain ⟨wB, hwB⟩ : ∃ wB, wB = (w7.setCell ⟨W.heap.size, 0, none⟩ (.int .i64 lm)).setCell ⟨W.heap.size + 1, 0, none⟩ (.int .i64 sp) := ⟨_, rfl⟩
  have hO7 : Only (fun k => k = W.heap.size ∨ k = W.heap.size + 1) w7 wB := by
    rw [hwB]
    exact ((Only.refl _ w7).setCell (a := ⟨W.heap.size, 0, none⟩) (fun _ => .inl rfl) _).setCell (a := ⟨W.heap.size + 1, 0, none⟩) (fun _ => .inr rfl) _
  have hszW : W0.heap.size = W.heap.size + 1 + 1 + 1 := by rw [hW0.out]; simp
  have hsz7 := hBe.size
  have hszB : wB.heap.size = w7.heap.size := by rw [hwB]; simp
  have hl3 : W0.heap.size ≤ w3.heap.size := hBb3.out
  have hl2 : W0.heap.size ≤ w2.heap.size := hBb2.out
  have hl5 : W0.heap.size ≤ w5.heap.size := hBb5.out
  have hGB := hG7.only hO7 (fun k h1 _ h2 => by omega)
  have hRB := hRs7.past hO7 (by rw [sCells_len]; omega) (fun k h => by rcases h with rfl | rfl; exact ⟨_, _, hLm7⟩; exact ⟨_, _, hSt7⟩)
  have hWB := hWt7.only hO7 (by omega)
  have hNB := hNb7.only hO7 (by omega)
  have hRtB := hRt7.only hO7 (by omega)
  have hLB : Has wB W.heap.size [.int .i64 lm] 3 := by rw [hwB]; exact hLm8.set_ne (a := ⟨W.heap.size + 1, 0, none⟩) (by simp) (.int .i64 sp)
  have hSB : Has wB (W.heap.size + 1) [.int .i64 sp] 3 := by rw [hwB]; exact hSt8.set 0 (.int .i64 sp)
  have hb8 : Below wB.heap.size wB w8 := by rw [hw8.out, ← hwB]; exact (Below.refl _ _).alloc (Nat.le_refl _) _
  have hK8 : Has w8 wB.heap.size [.int .u64 0] 42 := by rw [hw8.out, ← hwB]; exact Has.new wB [.int .u64 0] 42
  have hb9 : Below wB.heap.size wB w9 := hb8.trans (hB9.mono hb8.size)
  have hK9 := hK8.only (Only.of_below hB9) (Nat.not_le.2 hK8.lt)
  have hbWB : Below W.heap.size W wB := by
    rw [hwB]
    exact ((hb0.out.trans (hBe.mono hb0.out.size)).setCell (p := ⟨W.heap.size, 0, none⟩) (Nat.le_refl _) _).setCell (p := ⟨W.heap.size + 1, 0, none⟩) (Nat.le_succ _) _
  have hz9 := World.block_lt_of_cell? _ _ hg2
  have hz8 := hK8.lt
  simp only at hz9
  have hzk : wB.heap.size = w7.heap.size := hszB
  have hseq : ∀ Wx, Below w9.heap.size w9 Wx → SeqOwn Fence.wide 2 Try.prog 53 #[.pointer (some ⟨w8.heap.size, 0, none⟩), .pointer (some ⟨w8.heap.size + 1, 0, none⟩)] (fun x : Value × Nat => #[x.1]) (fun k => k < wB.heap.size ∨ k = w8.heap.size ∨ k = w8.heap.size + 1) (GivC G) (SeqC G lm) (fun _ => True) lm.toNat Wx := fun Wx hb =>
    cuts_own 2 _ _ g G lm wB Wx hGB.st (Bl.of_below (hb9.trans (hb.mono hb9.size)) (Nat.le_refl _)) (by omega) ((hb.cell (World.block_lt_of_cell? _ _ hg1)).trans hg1) ((hb.cell (World.block_lt_of_cell? _ _ hg2)).trans hg2)
  have cK9 := hK9.cell (o := 0) rfl
  have fK9 := hK9.free 0
  have hzBk : w7.heap.size < w8.heap.size := by omega
  have hz89 : w8.heap.size + 1 < w9.heap.size := hz9
  rw [hszB] at hzk
  obtain ⟨kb, hkb⟩ : ∃ kb, kb = w7.heap.size := ⟨_, rfl⟩
  have hI0 : w9.cell? ⟨kb, 0, none⟩ = some (.int .u64 0) ∧ w9.frozen? ⟨kb, 0, none⟩ = false ∧ Below wB.heap.size wB w9 := by rw [hkb, ← hszB]; exact ⟨cK9, fK9, hb9⟩
  have hB9s := hb9.size
  replace hseq := Lib.hid hseq
  replace hI0 := Lib.hid hI0
  replace hGB := Lib.hid hGB
  replace hRB := Lib.hid hRB
  replace hWB := Lib.hid hWB
  replace hNB := Lib.hid hNB
  replace hRtB := Lib.hid hRtB
  replace hLB := Lib.hid hLB
  replace hSB := Lib.hid hSB
  replace hbWB := Lib.hid hbWB
  replace hwB := Lib.hid hwB
  replace hszB := Lib.hid hszB
  replace hszW := Lib.hid hszW
  replace hkb := Lib.hid hkb
  clear hO7 hG7 hRs7 hWt7 hNb7 hRt7 hLm7 hSt7 hLm8 hSt8 cS8 fS8 cL7 fL7 hb8 hK8 hK9 hB9 hb9 cK9 fK9 hg1 hg2 cN7 hL8 cL8 hzk
  go_wp2_with fail
  refine wp_rangeFunc_roll2 (α := Value × Nat) (q := 16) (gf := 53) (lb := #[.pointer (some ⟨w8.heap.size, 0, none⟩), .pointer (some ⟨w8.heap.size + 1, 0, none⟩)]) rfl (enters_of Try.func53 (by kernel_rfl) rfl) (enc := fun x => x.1) (r := fun k => k < wB.heap.size ∨ k = w8.heap.size ∨ k = w8.heap.size + 1) (Giv := GivC G)
    (S := SeqC G lm) (Sp := fun _ => True) (N := lm.toNat) hseq.out (fun k hk => by have := hszB.out; omega) ?hGiv
    (fun c pre A => A.cell? ⟨kb, 0, none⟩ = some (.int .u64 (pre.length : Int)) ∧ A.frozen? ⟨kb, 0, none⟩ = false ∧ Below wB.heap.size wB A)
    (fun c j pre A => j = .ret ∧ A.cell? ⟨W.heap.size + 1 + 1, 0, none⟩ = some (.bool true) ∧ Below W.heap.size W A) ?hI ?hIx (fun c _ => hI0.out) ?assign ?body ?done ?stop
  case hGiv =>
    rintro c pre x A l o o' hl hlo ho ⟨h1, h2, a, cap', h3, h4⟩
    refine ⟨h1, h2, a, cap', h3, ?_⟩
    rcases h4 with h4 | ⟨b, off, h5, h4⟩
    · exact .inl h4
    · refine .inr ⟨b, off, h5, fun j u hj => ?_⟩
      have hc := h4 j u hj
      have hr : Roll l (fun _ => False) A (A.putObj l o') := Roll.putObj o' (Nat.le_refl _) hlo ho
      exact hr.cell (fun h => h) hc
  case hI =>
    rintro c pre A E hc ⟨h1, h2, h3⟩ hr
    have := hkb.out
    have := hszB.out
    have hn : ¬ c kb := fun e => by have := hc _ e; omega
    exact ⟨hr.cell hn h1, hr.frozen hn h1 h2, hr.below hc (by omega) h3 (Nat.le_refl _)⟩
  case hIx =>
    rintro c j pre A E hc ⟨rfl, h1, h2⟩ hr
    have := hszW.out
    have hn : ¬ c (W.heap.size + 1 + 1) := fun e => by have := hc _ e; omega
    exact ⟨rfl, hr.cell hn h1, hr.below hc (by omega) h2 (Nat.le_refl _)⟩
  case assign =>
    intro l x A K hK
    gi_wp2
    exact hK
  case body =>
    rintro l c pre ⟨v, k0⟩ A hc ⟨h1, h2, h3⟩ ⟨hx1, hxP, hxr⟩ hlen
    simp only at hx1 hxP hxr
    subst hx1
    rw [hkb.out] at h1 h2
    have hzB := hszB.out
    have hzW := hszW.out
    have hpl : pre.length < 200 := by omega
    have hcv3 : pre.length < cv := by rcases hcvP.out with h | ⟨h, _⟩ <;> omega
    have hBlA : Bl wB A := Bl.of_below h3 (Nat.le_refl _)
    have cWA := (hBlA.has hWB.out).cell (o := 0) rfl
    have cNA := (hBlA.has hNB.out).cell (o := 0) rfl
    have cLA := (hBlA.has hLB.out).cell (o := 0) rfl
    have cSA := (hBlA.has hSB.out).cell (o := 0) rfl
    have hRtA := hBlA.has hRtB.out
    have hRA := hBlA.rd hRB.out
    have qc := refcut_any sa sc (stf G) N pre.length hN'.out (by omega) (stf_line st.ok) A hRA hwl
    rw [rcut_taken st.ok st.cg] at qc
    have hcl : (cutL G (takenN G pre.length)).length ≤ 20000 := Nat.le_trans (cutK_le G _ _) st.ok.wl
    generalize cutL G (takenN G pre.length) = cl at *
    have qe := fun wx na nc (ha : Rd wx v cl.length (nats cl)) (hb : Rd wx (.slice na cl.length nc) cl.length (nats cl)) => equal_nats v (.slice na cl.length nc) cl cl wx ha hb (by omega) (by omega)
    have d1 : decide ((cv : Int) ≤ (pre.length : Int)) = false := decide_eq_false (by omega)
    have d1N : decide (cv ≤ pre.length) = false := decide_eq_false (by omega)
    have d2 : decide (lm ≤ (pre.length : Int)) = false := decide_eq_false (by omega)
    have hw1 : wrap64 (pre.length : Int) = (pre.length : Int) := by unfold wrap64; omega
    have hlA := h3.size
    replace qc := Lib.hid qc
    replace qe := Lib.hid qe
    replace hxr := Lib.hid hxr
    replace hw1 := Lib.hid hw1
    gi_wp2_with (refine ⟨trivial, ?_⟩; gi_at_call 22; refine (CallsIn.inRound l (callsIn_wide.2 qc.out)).mono ?_; rintro e wc ⟨na, nc, rfl, hown, hBc1, _⟩)
    have qe1 := qe.out wc na nc (hxr.out.kept hBc1) (Rd.of_own hown)
    simp only [decide_true] at qe1
    replace qe1 := Lib.hid qe1
    gi_wp2_with fail
    refine ⟨trivial, ?_⟩
    refine (CallsIn.inRound l (callsIn_wide.2 qe1.out)).mono ?_
    rintro e wd ⟨rfl, m1, hwd⟩
    have hbd : Below A.heap.size A wd := hwd ▸ below_drewN hBc1 m1
    replace hwd := Lib.hid hwd
    have n1 := (hbd.cell (World.block_lt_of_cell? _ _ h1)).trans h1
    have nf : wd.frozen? ⟨w7.heap.size, 0, none⟩ = false := (hbd.frozen (p := ⟨w7.heap.size, 0, none⟩) (World.block_lt_of_cell? _ _ h1)).trans h2
    have hKd : w7.heap.size < A.heap.size := World.block_lt_of_cell? _ _ h1
    have cSd := (hbd.cell (World.block_lt_of_cell? _ _ cSA)).trans cSA
    have cS2 : ∀ v, (wd.setCell ⟨w7.heap.size, 0, none⟩ v).cell? ⟨W.heap.size + 1, 0, none⟩ = some (.int .i64 sp) := fun v => by
      rw [World.cell?_setCell_other _ _ _ _ (by intro e; injection e with e; omega)]; exact cSd
    have hu : IntKind.u64.wrap ((pre.length : Int) + 1) = (pre.length : Int) + 1 := IntWalk.u64_in _ (by omega)
    have hw3 : wrap64 ((pre.length : Int) + 1) = (pre.length : Int) + 1 := by unfold wrap64; omega
    have nN : (wd.setCell ⟨w7.heap.size, 0, none⟩ (.int .u64 ((pre.length : Int) + 1))).cell? ⟨w7.heap.size, 0, none⟩ = some (.int .u64 ((pre.length : Int) + 1)) := by
      exact World.cell?_setCell_same' _ _ _ (by rw [n1]; rfl)
    have cS3 := cS2 (.int .u64 ((pre.length : Int) + 1))
    replace hw3 := Lib.hid hw3
    replace hu := Lib.hid hu
    clear qc qe qe1 hown hxr hBc1 cS2
    have hl2' : (pre ++ [((v, pre.length) : Value × Nat)]).length = pre.length + 1 := by rw [List.length_append, List.length_singleton]
    have hk1 : KeepsFrom w9.heap.size A wd := ⟨hbd.size, fun k o _ hk _ => (hbd.block k (Array.getElem?_eq_some_iff.1 hk).1).trans hk⟩
    have hk0 : KeepsFrom w9.heap.size A (wd.setCell ⟨w7.heap.size, 0, none⟩ (.int .u64 ((pre.length : Int) + 1))) := hk1.trans ((KeepsOthers.setCell _ _ _).from _)
    have hne : ¬ (c w7.heap.size ∨ w7.heap.size < wB.heap.size ∨ w7.heap.size = w8.heap.size ∨ w7.heap.size = w8.heap.size + 1) := fun e => by
      rcases e with e | e
      · have := hc _ e; omega
      · omega
    have hkb2 : KeepB (fun k => c k ∨ k < wB.heap.size ∨ k = w8.heap.size ∨ k = w8.heap.size + 1) A (wd.setCell ⟨w7.heap.size, 0, none⟩ (.int .u64 ((pre.length : Int) + 1))) := (KeepB.of_below hbd (Nat.le_refl _)).setCell _ hne
    have h3d : Below wB.heap.size wB wd := h3.trans (hbd.mono h3.size)
    have hb5 : Below wB.heap.size wB (wd.setCell ⟨w7.heap.size, 0, none⟩ (.int .u64 ((pre.length : Int) + 1))) := h3d.setCell (p := ⟨w7.heap.size, 0, none⟩) (by show wB.heap.size ≤ w7.heap.size; omega) _
    have nf2 : (wd.setCell ⟨w7.heap.size, 0, none⟩ (.int .u64 ((pre.length : Int) + 1))).frozen? ⟨w7.heap.size, 0, none⟩ = false := by rw [World.frozen?_setCell]; exact nf
    have hRt5 := (Bl.of_below hb5 (Nat.le_refl _)).has hRtB.out
    have cRs5 := hRt5.cell (o := 0) rfl
    have fRs5 := hRt5.free 0
    have hRt6 := (hRt5.set 0 (.bool true)).cell (o := 0) rfl
    have hbW : Below W.heap.size W ((wd.setCell ⟨w7.heap.size, 0, none⟩ (.int .u64 ((pre.length : Int) + 1))).setCell ⟨W.heap.size + 1 + 1, 0, none⟩ (.bool true)) := (hbWB.out.trans (hb5.mono hbWB.out.size)).setCell (p := ⟨W.heap.size + 1 + 1, 0, none⟩) (by show W.heap.size ≤ W.heap.size + 1 + 1; omega) _
    have hN2 := Lib.hid (show KeepsFrom w9.heap.size A (wd.setCell ⟨w7.heap.size, 0, none⟩ (.int .u64 ((pre.length : Int) + 1))) ∧ KeepB (fun k => c k ∨ k < wB.heap.size ∨ k = w8.heap.size ∨ k = w8.heap.size + 1) A (wd.setCell ⟨w7.heap.size, 0, none⟩ (.int .u64 ((pre.length : Int) + 1))) ∧
      (wd.setCell ⟨w7.heap.size, 0, none⟩ (.int .u64 ((pre.length : Int) + 1))).cell? ⟨kb, 0, none⟩ = some (.int .u64 (((pre ++ [((v, pre.length) : Value × Nat)]).length : Nat) : Int)) ∧ (wd.setCell ⟨w7.heap.size, 0, none⟩ (.int .u64 ((pre.length : Int) + 1))).frozen? ⟨kb, 0, none⟩ = false ∧ _ from ⟨hk0, hkb2, by rw [hl2', hkb.out, nN]; rfl, by rw [hkb.out]; exact nf2, hb5⟩)
    have hX := Lib.hid (show KeepsFrom w9.heap.size A ((wd.setCell ⟨w7.heap.size, 0, none⟩ (.int .u64 ((pre.length : Int) + 1))).setCell ⟨W.heap.size + 1 + 1, 0, none⟩ (.bool true)) ∧ Code.ret = Code.ret ∧ _ ∧ _ from ⟨hk0.trans ((KeepsOthers.setCell (wd.setCell ⟨w7.heap.size, 0, none⟩ (.int .u64 ((pre.length : Int) + 1))) ⟨W.heap.size + 1 + 1, 0, none⟩ (.bool true)).from _), rfl, hRt6, hbW⟩)
    clear hk0 hk1 hkb2 h3d hb5 nf2 hRt5 hRt6 hbW hne hl2' cSd
    by_cases hst : (pre.length : Int) + 1 = sp
    · have hbq := beq_iff_eq.2 hst
      subst hst
      gi_wp2
      exact ⟨hX.out.1, rfl, hX.out.2.2⟩
    · have hbq := beq_eq_false_iff_ne.2 hst
      gi_wp2
      exact hN2.out
  case done =>
    rintro D c xs A hD hc hS ⟨h1, h2, h3⟩ hK
    replace hS : xs.length = min lm.toNat (prodB (bsG G) G.n) := hS
    rw [hkb.out] at h1 h2
    have hzB := hszB.out
    have hzW := hszW.out
    obtain ⟨S, hSe⟩ : ∃ S : Nat, S = xs.length := ⟨_, rfl⟩
    rw [← hSe] at hS h1
    have hBlA : Bl wB A := Bl.of_below h3 (Nat.le_refl _)
    have cNA := (hBlA.has hNB.out).cell (o := 0) rfl
    have cLA := (hBlA.has hLB.out).cell (o := 0) rfl
    have hRtA := hBlA.has hRtB.out
    have cRA := hRtA.cell (o := 0) rfl
    have fRA := hRtA.free 0
    obtain ⟨m, hm⟩ : ∃ m : Int, m = max lm 0 := ⟨_, rfl⟩
    have hm0 : 0 ≤ m := by omega
    have hm2 : m ≤ 200 := by omega
    have hmx : max lm 0 = m := hm.symm
    have hm4 : (if lm < 0 then (0 : Int) else lm) = m := by
      by_cases h : lm < 0
      · rw [if_pos h]; omega
      · rw [if_neg h]; omega
    have hm5 : (if (0 : Int) < lm then lm else 0) = m := by
      by_cases h : (0 : Int) < lm
      · rw [if_pos h]; omega
      · rw [if_neg h]; omega
    have hSm : S = min m.toNat cv := by rcases hcvP.out with h | ⟨h, h'⟩ <;> omega
    have hmn : min (cv : Int) m = (S : Int) := by omega
    have hmn1 : min m (cv : Int) = (S : Int) := by omega
    have hmn2 : (if (cv : Int) < m then (cv : Int) else m) = (S : Int) := by
      by_cases h : (cv : Int) < m
      · rw [if_pos h]; omega
      · rw [if_neg h]; omega
    have hmn3 : (if m < (cv : Int) then m else (cv : Int)) = (S : Int) := by
      by_cases h : m < (cv : Int)
      · rw [if_pos h]; omega
      · rw [if_neg h]; omega
    have hu1 : IntKind.u64.wrap m = m := IntWalk.u64_in _ (by omega)
    have hbWA := hbWB.out.trans (h3.mono hbWB.out.size)
    replace hS := Lib.hid hS
    replace hSe := Lib.hid hSe
    replace hSm := Lib.hid hSm
    replace hm := Lib.hid hm
    replace hK := Lib.hid hK
    go_wp2_with fail
    have hR7 := hRtA.set 0 (.bool true)
    have hK6 : (A.setCell ⟨W.heap.size + 1 + 1, 0, none⟩ (.bool true)).heap[D]? = some (.deferred (some [])) := by
      rw [heap_setCell_ne (by show D ≠ W.heap.size + 1 + 1; omega)]
      exact hK.out
    have hB6 : Below W.heap.size W (A.setCell ⟨W.heap.size + 1 + 1, 0, none⟩ (.bool true)) := hbWA.setCell (p := ⟨W.heap.size + 1 + 1, 0, none⟩) (by show W.heap.size ≤ W.heap.size + 1 + 1; omega) _
    refine ⟨by simp, .inl ⟨_, _, rfl, run_takeDeferred hK6, ?_⟩⟩
    have hP := Roll.putObj (D := w9.heap.size) (c := fun _ => False) (.deferred none) hD hK6 rfl
    have cR8 := hP.cell (p := ⟨W.heap.size + 1 + 1, 0, none⟩) (fun h => h) (hR7.cell (o := 0) rfl)
    have hB7 := hP.below (fun _ h => h.elim) (by omega) hB6 (Nat.le_refl _)
    refine ⟨.bool true, by simp [results, Try.results10, go_sem, cR8], ?_⟩
    rw [← hpost.out]
    exact ⟨rfl, hB7⟩
  case stop =>
    rintro D c j pre A hD hc _ ⟨rfl, h1, h2⟩ hK
    have := hszW.out
    go_wp2_with fail
    refine ⟨by simp, .inl ⟨_, _, rfl, run_takeDeferred hK, ?_⟩⟩
    have hP := Roll.putObj (D := w9.heap.size) (c := fun _ => False) (.deferred none) hD hK rfl
    have cR7 := hP.cell (p := ⟨W.heap.size + 1 + 1, 0, none⟩) (fun h => h) h1
    have hB7 := hP.below (fun _ h => h.elim) (by omega) h2 (Nat.le_refl _)
    refine ⟨.bool true, by simp [results, Try.results10, go_sem, cR7], ?_⟩
    rw [← hpost.out]
    exact ⟨rfl, hB7⟩
theorem i64_bd {n : Int} (h : (Lit.int .i64 n).wf = true) : -9223372036854775808 ≤ n ∧ n ≤ 9223372036854775807 := by
  simp only [Lit.wf, Bool.and_eq_true, decide_eq_true_eq] at h
  have e1 : IntKind.min .i64 = -9223372036854775808 := by decide
  have e2 : IntKind.max .i64 = 9223372036854775807 := by decide
  rw [e1, e2] at h
  omega
end Go.Proofs.Ytpgjpoilcdkjgaa
