/- The iterator of Cuts. Cuts: the closure over the boxes of its arguments. -/
import Derived.Test.YtjmdibgncaljaaaO37
import Derived.Test.YtjmdibgncaljaaaItB
import Derived.Laws.CopyRow
namespace Go.Proofs.Ytjmdibgncaljaaa
open Go.RowKit
attribute [local go_sem] Oper.semAt_some
theorem ItStep.of_only {c S : Nat → Prop} {A C : World} (h : Only S A C) (hs : ∀ k, S k → c k) : ItStep c A C := ⟨h.size, fun k hk hc => h.block k hk (fun e => hc (hs k e)), h.os, h.tape, h.output⟩
theorem RowAt.kept {A C : World} {b : Nat} {L : List Nat} (h : RowAt A b L) (hh : C.heap[b]? = A.heap[b]?) : RowAt C b L := fun j hj =>
  ⟨(World.cell?_of_block hh).trans (h j hj).1, (World.frozen?_of_block hh).trans (h j hj).2⟩
theorem RowAt.of_has {w : World} {b : Nat} {l : List Nat} (h : Has w b (nats l) 3) : RowAt w b l := fun j hj => by
  have := h.cell (o := j) (nats_get l j _ (get_of_lt 0 hj))
  exact ⟨this, h.free j⟩
theorem RowAt.rd {w : World} {b cap : Nat} {l : List Nat} (h : RowAt w b l) : Rd w (.slice (some ⟨b, 0, none⟩) l.length cap) l.length (nats l) := by
  refine ⟨_, cap, rfl, .inr ⟨b, 0, rfl, fun j u hu => ?_⟩⟩
  by_cases hj : j < l.length
  · rw [nats_get l j _ (get_of_lt 0 hj)] at hu
    rw [Nat.zero_add, (h j hj).1, ← hu]
  · unfold nats at hu
    rw [List.getElem?_eq_none (by simp; omega)] at hu; cases hu
theorem run_copyAll {P : Program} {w : World} (dT sT ty elem : TypeId) (hu : P.underlying dT = some (.slice elem)) (hsz : (P.info? elem).map (·.size) = some 1) (g n dCap sCap : Nat) (ad : Addr) (xs cs : List Value) (T : TypeId) (hH : Has w g xs T) (hxn : xs.length = n)
    (hn : cs.length = n) (hsrc : ∀ j v, cs[j]? = some v → w.cell? (ad.add j) = some v) (h1 : ∀ v ∈ cs, v.oneCell' = true) :
    ∃ w', (Builtin.copy_ #[dT, sT] ty #[.slice (some ⟨g, 0, none⟩) n dCap, .slice (some ad) n sCap]).run P w = .ok (goInt n) w' ∧ Has w' g cs T ∧ Only (fun k => k = g) w w' := by
  have hrun := run_copy_row (P := P) w dT sT ty elem g 0 n dCap ad n sCap xs.toArray T cs hu hsz hH (by rw [hn]; exact (Nat.min_self n).symm) hsrc (by rw [hn]; simp [hxn]) h1
  rw [hn] at hrun
  refine ⟨_, hrun, ?_, ⟨rfl, rfl, rfl, by simp [World.setRow], fun k _ hk => setRow_other w g k _ hk⟩⟩
  have := setRow_heap w g xs.toArray (List.take 0 xs ++ cs ++ List.drop (0 + n) xs).toArray T _ hH
  unfold Has
  rw [this]
  simp [hxn]
def GivC (G : Gr) (c : Nat → Prop) (pre : List (Value × Nat)) (x : Value × Nat) (W : World) : Prop :=
  x.2 = pre.length ∧ x.2 < prodB (bsG G) G.n ∧ Rd W x.1 (cutL G (takenN G x.2)).length (nats (cutL G (takenN G x.2))) ∧ ∀ k, c k → k < W.heap.size
def SeqC (G : Gr) (lim : Int) (xs : List (Value × Nat)) : Prop := xs.length = min lim.toNat (prodB (bsG G) G.n)
theorem takenN_le {G : Gr} (ok : G.Ok) (n : Nat) : ∀ t ∈ takenN G n, t ≤ 20000 := by
  intro t ht
  unfold takenN at ht
  obtain ⟨x, hx, rfl⟩ := List.mem_map.1 ht
  have hx := List.mem_range.1 hx
  have hcb := ok.cb _ (mem_getD 0 (by rw [ok.cl]; exact hx) : G.ct.getD x 0 ∈ G.ct)
  have hmc := ok.mc x
  have hd : ∀ m n x, x < m → dig (bsG G) m n x < bsG G x := by
    intro m
    induction m with
    | zero => intro n x hx; omega
    | succ m ih =>
      intro n x hx
      show (if x = m then _ else _) < _
      split
      · rename_i e; subst e; exact Nat.mod_lt _ (bsG_pos G x)
      · exact ih _ x (by omega)
  have := hd G.n n x hx
  unfold bsG at this
  unfold bsG
  omega
set_option maxHeartbeats 2000000 in
set_option maxRecDepth 100000 in
theorem cuts_own (n : Nat) (b1 b2 g : Nat) (G : Gr) (lim : Int) (W0 W : World) (hG : GraphSt W0 g G) (hW : Bl W0 W) (hlim : lim ≤ 1000000) (hb1 : W.cell? ⟨b1, 0, none⟩ = some (.pointer (some ⟨g, 0, none⟩))) (hb2 : W.cell? ⟨b2, 0, none⟩ = some (.int .i64 lim)) :
    SeqOwn Fence.wide n Try.prog 53 #[.pointer (some ⟨b1, 0, none⟩), .pointer (some ⟨b2, 0, none⟩)] (fun x : Value × Nat => #[x.1]) (fun k => k < W0.heap.size ∨ k = b1 ∨ k = b2) (GivC G) (SeqC G lim) (fun _ => True) lim.toNat W := by
  intro lp J Jx hJ hJx hY h0
  have ok := hG.ok
  have hn1 := ok.n1
  have hn2 := ok.n2
  have hpp := prodB_pos (bsG_pos G) G.n
  generalize hpost : ItDone (SeqC G lim) (fun _ => True) J Jx W = post
  replace hpost := Lib.hid hpost
  refine callsIn_of_wp Try.func53 rfl trivial ?_ rfl
  simp only [Try.ntmps53, List.size_toArray, List.length_cons, List.length_nil, Nat.reduceAdd, Nat.reduceSub, Array.replicate_succ, Array.replicate_zero, List.push_toArray, List.append_toArray, List.nil_append, List.cons_append]
  by_cases hlim0 : lim < 1
  · have hd : decide (lim < 1) = true := decide_eq_true hlim0
    gi_wp2
    refine bodyPost_ret (results_none rfl _ _ _) rfl ?_
    rw [← hpost.out]
    refine ⟨⟨_, rfl⟩, .inl ⟨fun _ => False, [], fun _ h => h.elim, ?_, h0 _ (fun _ h => h.elim)⟩⟩
    unfold SeqC
    rw [List.length_nil, show lim.toNat = 0 by omega, Nat.zero_min]
  · have hd : decide (lim < 1) = false := decide_eq_false hlim0
    have hGW := hG.bl hW
    obtain ⟨wa, wc, ra, rc, ca, ma, h1, h2, h3, h4, h5⟩ := hGW.ex
    obtain ⟨bm, om, cm, em, fm⟩ := h5.cells hn1
    simp only [Value.slice.injEq, true_and] at em
    obtain ⟨rfl, em⟩ := em
    replace em := Lib.hid em
    have c0 := h1.cell (o := 0) rfl
    have c4 := h1.cell (o := 4) rfl
    have hgW := h1.lt
    have hmk := make1 (P := Try.prog) 49 3 (.int .i64 0) 8 Try.underlying49 info3 rfl G.n (by omega) (by omega) W
    obtain ⟨W1, hW1⟩ : ∃ W1, W1 = W.alloc (.cells (Array.replicate G.n (.int .i64 0)) 3) := ⟨_, rfl⟩
    have hB1 : Below W.heap.size W W1 := by rw [hW1]; exact (Below.refl _ _).alloc (Nat.le_refl _) _
    have hH1 : Has W1 W.heap.size (List.replicate G.n (.int .i64 0)) 3 := by
      have := Has.new W (List.replicate G.n (Value.int .i64 0)) 3
      rw [List.toArray_replicate] at this
      rw [hW1]; exact this
    have hml := ok.ml
    obtain ⟨W2, hcp, hH2, hO2⟩ := run_copyAll (P := Try.prog) (w := W1) 49 49 3 3 Try.underlying49 (by kernel_rfl) W.heap.size G.n G.n G.n ⟨bm, om, none⟩ (List.replicate G.n (.int .i64 0)) (nats G.md) 3 hH1 (by simp) (by simp [nats, hml])
      (fun j v hj => by
        have hc := fm j v hj
        have e : (⟨bm, om, none⟩ : Addr).add j = ⟨bm, om + j, none⟩ := by unfold Addr.add; split <;> simp_all
        rw [e]
        exact (hB1.cell (World.block_lt_of_cell? _ _ hc)).trans hc)
      (fun v hv => by unfold nats at hv; obtain ⟨x, _, rfl⟩ := List.mem_map.1 hv; rfl)
    have hB2 : Below W.heap.size W W2 := hB1.trans (hO2.below (B := W.heap.size) hB1.size (fun _ _ e => by omega))
    have hR2 : RowAt W2 W.heap.size (takenN G 0) := by rw [taken_zero ok]; exact RowAt.of_has hH2
    have hbw1 : W2.cell? ⟨b1, 0, none⟩ = some (.pointer (some ⟨g, 0, none⟩)) := (hB2.cell (World.block_lt_of_cell? _ _ hb1)).trans hb1
    have hbw2 : W2.cell? ⟨b2, 0, none⟩ = some (.int .i64 lim) := (hB2.cell (World.block_lt_of_cell? _ _ hb2)).trans hb2
    have hcW : ∀ k, k = W.heap.size → W.heap.size ≤ k := fun k e => by omega
    have hJ2 : J (fun k => k = W.heap.size) [] W2 := hJ _ [] W W2 hcW (h0 _ hcW) (ItStep.of_below (Nat.le_refl _) hB2)
    have hBl2 : Bl W0 W2 := hW.trans (Bl.of_below hB2 (Nat.le_refl _))
    have hsz2 : W.heap.size < W2.heap.size := hH2.lt
    have hne1 : b1 ≠ W.heap.size := by have := World.block_lt_of_cell? _ _ hb1; simp only at this; omega
    have hne2 : b2 ≠ W.heap.size := by have := World.block_lt_of_cell? _ _ hb2; simp only at this; omega
    have b11 := (hB1.cell (World.block_lt_of_cell? _ _ hb1)).trans hb1
    have c41 := (hB1.cell (World.block_lt_of_cell? _ _ c4)).trans c4
    have hW0 := hW.1
    rw [← hW1] at hmk
    replace hW1 := Lib.hid hW1
    replace hlim := Lib.hid hlim
    replace hY := Lib.hid hY
    replace hJ := Lib.hid hJ
    replace hJx := Lib.hid hJx
    replace hR2 := Lib.hid hR2
    replace hJ2 := Lib.hid hJ2
    replace hBl2 := Lib.hid hBl2
    replace hbw1 := Lib.hid hbw1
    replace hbw2 := Lib.hid hbw2
    clear hB1 hB2 hH1 hH2 hO2 h1 h2 h3 h4 h5 fm h0
    gi_wp2_with fail
    gi_loopw [5] (fun nv wr => ∃ pre : List (Value × Nat), nv = .int .i64 (pre.length : Int) ∧ pre.length ≤ lim.toNat ∧ pre.length < prodB (bsG G) G.n ∧ RowAt wr W.heap.size (takenN G pre.length) ∧
      wr.cell? ⟨b1, 0, none⟩ = some (.pointer (some ⟨g, 0, none⟩)) ∧ wr.cell? ⟨b2, 0, none⟩ = some (.int .i64 lim) ∧ Bl W0 wr ∧ W.heap.size < wr.heap.size ∧ J (fun k => k = W.heap.size) pre wr) (fun nv _ => lim.toNat - (intOf nv).toNat)
    case atStart => exact ⟨[], rfl, Nat.zero_le _, by show 0 < _; omega, hR2.out, hbw1.out, hbw2.out, hBl2.out, hsz2, hJ2.out⟩
    case round =>
      clear hR2 hJ2 hBl2 hbw1 hbw2 hmk hcp b11 c41 c0 c4 hb1 hb2
      obtain ⟨pre, rfl, hpl, hpP, hRr, hbl1, hbl2, hBlr, hszr, hJp⟩ := hrel
      by_cases hlt : pre.length < lim.toNat
      · have hltI : decide ((pre.length : Int) < lim) = true := decide_eq_true (by omega)
        have hc1 := cut_any g G (some ⟨W.heap.size, 0, none⟩) G.n (takenN G pre.length) wr (hG.bl hBlr) (by have := hRr.rd (cap := G.n); rw [takenN_len] at this; exact this) (takenN_len G _) (takenN_le ok _)
        have hst : ∀ w2, Below wr.heap.size wr w2 → RowAt w2 W.heap.size (takenN G pre.length) ∧ w2.cell? ⟨b1, 0, none⟩ = some (.pointer (some ⟨g, 0, none⟩)) ∧ w2.cell? ⟨b2, 0, none⟩ = some (.int .i64 lim) ∧ Bl W0 w2 ∧ J (fun k => k = W.heap.size) pre w2 := fun w2 h =>
          ⟨hRr.kept (h.block _ hszr), (h.cell (World.block_lt_of_cell? _ _ hbl1)).trans hbl1, (h.cell (World.block_lt_of_cell? _ _ hbl2)).trans hbl2, hBlr.trans (Bl.of_below h (Nat.le_refl _)), hJ.out _ pre wr w2 hcW hJp (ItStep.of_below (Nat.le_refl _) h)⟩
        replace hst := Lib.hid hst
        replace hc1 := Lib.hid hc1
        clear hRr hJp hBlr
        gi_wp2_with (refine ⟨trivial, fun h => (by cases h), ?_⟩; gi_at_call 54; refine (callsIn_wide.2 hc1.out).mono ?_; rintro e w2 ⟨sa, cap, rfl, hown, hB2, _⟩)
        obtain ⟨hR2, hb21, hb22, hBl2, hJ2⟩ := hst.out w2 hB2
        obtain ⟨fn, tmps, assign, body, hy, hR⟩ := hY.out (fun k => k = W.heap.size) pre (.slice sa (cutL G (takenN G pre.length)).length cap, pre.length) w2 hcW hJ2 ⟨rfl, hpP, Rd.of_own hown, fun k e => by have h1 : k = W.heap.size := e; have h2 := hB2.size; omega⟩ hlt
        dsimp only at hy
        gi_wp2
        rw [hy]
        gi_wp2
        refine ⟨fun h => (by cases h), hR.mono ?_⟩
        clear hR hy hY hown
        have hsz2w := hB2.size
        rintro e W3 (⟨rfl, hJ3, hk3⟩ | ⟨rfl, hJx3⟩)
        · have hR3 := hR2.kept (hk3.at (.inl rfl) (by omega))
          have hb31 := hk3.cell (p := ⟨b1, 0, none⟩) (.inr (.inr (.inl rfl))) hb21
          have hb32 := hk3.cell (p := ⟨b2, 0, none⟩) (.inr (.inr (.inr rfl))) hb22
          have hBl3 : Bl W0 W3 := ⟨Nat.le_trans hBl2.1 hk3.1, fun k hk => (hk3.at (.inr (.inl hk)) (Nat.lt_of_lt_of_le hk hBl2.1)).trans (hBl2.2 k hk)⟩
          have hnc := next_any g W.heap.size G.n G (takenN G pre.length) W0 W3 hG hBl3 hW0 hR3 (takenN_len G _) (Nat.le_refl _)
          obtain ⟨hn1', hn2'⟩ := next_taken ok pre.length hpP
          have hst3 : ∀ w4, Only (fun k => k = W.heap.size) W3 w4 → b1 ≠ W.heap.size → b2 ≠ W.heap.size → w4.cell? ⟨b1, 0, none⟩ = some (.pointer (some ⟨g, 0, none⟩)) ∧ w4.cell? ⟨b2, 0, none⟩ = some (.int .i64 lim) ∧ Bl W0 w4 ∧ J (fun k => k = W.heap.size) (pre ++ [(.slice sa (cutL G (takenN G pre.length)).length cap, pre.length)]) w4 ∧ W.heap.size < w4.heap.size := fun w4 h e1 e2 =>
            ⟨h.cell hb31 e1, h.cell hb32 e2, hBl3.only h (fun i e => by omega), hJ.out _ _ W3 w4 hcW hJ3 (ItStep.of_only h (fun k e => e)), by have h1 := hk3.1; have h2 := h.size; omega⟩
          replace hst3 := Lib.hid hst3
          clear hR3 hR2 hJ2 hJ3 hk3 hst hB2 hb21 hb22 hb32 hBl2 hBl3
          have hlen1 : (pre ++ [(Value.slice sa (cutL G (takenN G pre.length)).length cap, pre.length)]).length = pre.length + 1 := by rw [List.length_append, List.length_singleton]
          by_cases hnx : pre.length + 1 < prodB (bsG G) G.n
          · rw [hn1' hnx] at hnc
            replace hnc := Lib.hid hnc
            clear hn1' hn2'
            generalize cutL G (takenN G pre.length) = cl at *
            gi_wp2_with (refine ⟨trivial, fun h => (by cases h), ?_⟩; gi_at_call 55; refine (callsIn_wide.2 hnc.out).mono ?_; rintro e w4 ⟨rfl, hR4, hO4⟩)
            obtain ⟨hb41, hb42, hBl4, hJ4, hsz4⟩ := hst3.out w4 hO4 hne1 hne2
            have hwr := Lib.hid (show wrap64 ((pre.length : Int) + 1) = ((pre.length + 1 : Nat) : Int) by have := hlim.out; unfold wrap64; omega)
            replace hR4 := Lib.hid hR4
            replace hJ4 := Lib.hid hJ4
            replace hBl4 := Lib.hid hBl4
            replace hlen1 := Lib.hid hlen1
            clear hst3 hnc hO4
            gi_wp2
            refine ⟨⟨_, by rw [hwr.out, ← hlen1.out], by rw [hlen1.out]; omega, by rw [hlen1.out]; exact hnx, by rw [hlen1.out]; exact hR4.out, hb41, hb42, hBl4.out, hsz4, hJ4.out⟩, ?_⟩
            rw [hwr.out]; simp [intOf]; omega
          · rw [hn2' hnx] at hnc
            replace hnc := Lib.hid hnc
            clear hn1' hn2'
            generalize cutL G (takenN G pre.length) = cl at *
            gi_wp2_with (refine ⟨trivial, fun h => (by cases h), ?_⟩; gi_at_call 55; refine (callsIn_wide.2 hnc.out).mono ?_; rintro e w4 ⟨rfl, hR4, hO4⟩)
            obtain ⟨hb41, hb42, hBl4, hJ4, hsz4⟩ := hst3.out w4 hO4 hne1 hne2
            gi_wp2
            refine bodyPost_ret (results_none rfl _ _ _) rfl ?_
            rw [← hpost.out]
            refine ⟨⟨_, rfl⟩, .inl ⟨_, _, hcW, ?_, hJ4⟩⟩
            unfold SeqC
            rw [hlen1]; omega
        · gi_wp2
          refine ⟨trivial, ?_⟩
          gi_wp2
          refine bodyPost_ret (results_none rfl _ _ _) rfl ?_
          rw [← hpost.out]
          exact ⟨⟨_, rfl⟩, .inr ⟨_, _, hcW, trivial, hJx3⟩⟩
      · have hltI : decide ((pre.length : Int) < lim) = false := decide_eq_false (by omega)
        gi_wp2
        go_end0
        rw [← hpost.out]
        refine ⟨⟨_, rfl⟩, .inl ⟨_, pre, hcW, ?_, hJp⟩⟩
        unfold SeqC
        omega
end Go.Proofs.Ytjmdibgncaljaaa

namespace Go.Proofs.Ytjmdibgncaljaaa
open Go.RowKit
theorem call_cuts (w : World) (g : Nat) (n : Int) : Calls Try.prog 13 #[.pointer (some ⟨g, 0, none⟩), .int .i64 n] w fun e w' => e = .returned (.func (.func 53) #[] #[.pointer (some ⟨w.heap.size, 0, none⟩), .pointer (some ⟨w.heap.size + 1, 0, none⟩)]) ∧ Below w.heap.size w w' ∧
    w'.cell? ⟨w.heap.size, 0, none⟩ = some (.pointer (some ⟨g, 0, none⟩)) ∧ w'.cell? ⟨w.heap.size + 1, 0, none⟩ = some (.int .i64 n) := by
  have B1 := (Below.refl w.heap.size w).alloc (Nat.le_refl _) (.cells #[Value.pointer (some ⟨g, 0, none⟩)] 32)
  have B := Lib.hid (B1.alloc B1.size (.cells #[Value.int .i64 n] 3))
  have h1 := (Has.new w [Value.pointer (some ⟨g, 0, none⟩)] 32).alloc (.cells #[Value.int .i64 n] 3)
  have h2 := Has.new (w.alloc (.cells #[Value.pointer (some ⟨g, 0, none⟩)] 32)) [Value.int .i64 n] 3
  simp only [World.size_alloc] at h2
  have c1 := Lib.hid (h1.cell (o := 0) rfl)
  have c2 := Lib.hid (h2.cell (o := 0) rfl)
  clear B1 h1 h2
  go_enter Try.func13, Try.ntmps13
  go_wp2_with fail
  go_ret
  exact ⟨by simp, B.out, c1.out, c2.out⟩
end Go.Proofs.Ytjmdibgncaljaaa
