/- next: the walk. A row of numbers in a block of its own. -/
import Derived.Test.YtjmdibgncaljaaaQ7
import Derived.BigQuiet
namespace Go.Proofs.Ytjmdibgncaljaaa
open Go.RowKit
/-- The cells of block b, from its head, hold the numbers of l, and none is frozen. -/
def RowAt (w : World) (b : Nat) (l : List Nat) : Prop :=
  ∀ j, j < l.length → w.cell? ⟨b, j, none⟩ = some (.int .i64 ((l.getD j 0 : Nat) : Int)) ∧ w.frozen? ⟨b, j, none⟩ = false
theorem RowAt.set {w : World} {b : Nat} {l : List Nat} (h : RowAt w b l) (k y : Nat) (hk : k < l.length) : RowAt (w.setCell ⟨b, k, none⟩ (.int .i64 (y : Int))) b (l.set k y) := by
  intro j hj
  rw [List.length_set] at hj
  refine ⟨?_, by rw [World.frozen?_setCell]; exact (h j hj).2⟩
  rw [List.getD_eq_getElem?_getD, List.getElem?_set]
  by_cases e : k = j
  · subst e
    rw [if_pos rfl, if_pos hk, World.cell?_setCell_same _ _ _ (h k hk).1]; rfl
  · rw [if_neg e, World.cell?_setCell_other _ _ _ _ (by intro hh; cases hh; exact e rfl), (h j hj).1, List.getD_eq_getElem?_getD]
theorem nextP_len (G : Gr) : ∀ (m : Nat) (T : List Nat), (nextP G m T).1.length = T.length
  | 0, _ => rfl
  | m + 1, T => by
    unfold nextP
    split
    · simp
    · rw [nextP_len G m]; simp
/-- What W0 holds, wx holds. -/
def Bl (W0 wx : World) : Prop := W0.heap.size ≤ wx.heap.size ∧ ∀ k, k < W0.heap.size → wx.heap[k]? = W0.heap[k]?
theorem Bl.refl (W : World) : Bl W W := ⟨Nat.le_refl _, fun _ _ => rfl⟩
theorem Bl.of_below {W0 wx : World} {n : Nat} (h : Below n W0 wx) (hn : W0.heap.size ≤ n) : Bl W0 wx := ⟨h.size, fun k hk => h.block k (by omega)⟩
theorem Bl.trans {a b c : World} (h : Bl a b) (k : Bl b c) : Bl a c := ⟨Nat.le_trans h.1 k.1, fun i hi => (k.2 i (Nat.lt_of_lt_of_le hi h.1)).trans (h.2 i hi)⟩
theorem Bl.only {W0 a b : World} {S : Nat → Prop} (h : Bl W0 a) (k : Only S a b) (hs : ∀ i, S i → W0.heap.size ≤ i) : Bl W0 b :=
  ⟨Nat.le_trans h.1 k.size, fun i hi => (k.block i (Nat.lt_of_lt_of_le hi h.1) (fun e => by have := hs i e; omega)).trans (h.2 i hi)⟩
theorem Bl.cell {W0 wx : World} {p : Addr} {v : Value} (h : Bl W0 wx) (hv : W0.cell? p = some v) : wx.cell? p = some v :=
  (World.cell?_of_block (h.2 p.block (World.block_lt_of_cell? _ _ hv))).trans hv
theorem Bl.has {W0 wx : World} {b : Nat} {cs : List Value} {T : TypeId} (h : Bl W0 wx) (hh : Has W0 b cs T) : Has wx b cs T := by
  have hl := hh.lt
  unfold Has at hh ⊢
  rw [h.2 b hl]; exact hh
theorem Bl.rd {W0 wx : World} {v : Value} {n : Nat} {cs : List Value} (h : Bl W0 wx) (hr : Rd W0 v n cs) : Rd wx v n cs := by
  obtain ⟨a, cap, rfl, hr⟩ := hr
  refine ⟨a, cap, rfl, ?_⟩
  rcases hr with hr | ⟨b, off, rfl, hr⟩
  · exact .inl hr
  · exact .inr ⟨b, off, rfl, fun j u hj => h.cell (hr j u hj)⟩
theorem GraphSt.bl {W0 wx : World} {g : Nat} {G : Gr} (h : GraphSt W0 g G) (hb : Bl W0 wx) : GraphSt wx g G := by
  obtain ⟨wa, wc, ra, rc, ca, ma, h1, h2, h3, h4, h5⟩ := h.ex
  exact ⟨h.ok, wa, wc, ra, rc, ca, ma, hb.has h1, hb.rd h2, hb.rd h3, hb.rd h4, hb.rd h5⟩
set_option maxHeartbeats 1000000 in
set_option maxRecDepth 100000 in
theorem next_any (g b cap : Nat) (G : Gr) (T : List Nat) (W0 w : World) (h : GraphSt W0 g G) (hB : Bl W0 w) (hb : W0.heap.size ≤ b) (hr : RowAt w b T) (hT : T.length = G.n) (hcap : G.n ≤ cap) :
    Calls Try.prog 55 #[.pointer (some ⟨g, 0, none⟩), .slice (some ⟨b, 0, none⟩) G.n cap] w fun e w' => e = .returned (.bool (nextP G G.n T).2) ∧ RowAt w' b (nextP G G.n T).1 ∧ Only (fun k => k = b) w w' := by
  generalize hpost : (fun (e : Ending) w' => e = .returned (.bool (nextP G G.n T).2) ∧ RowAt w' b (nextP G G.n T).1 ∧ Only (fun k => k = b) w w') = post
  have ok := h.ok
  have hn1 := ok.n1
  have hn2 := ok.n2
  obtain ⟨wa, wc, ra, rc, ca, ma, h1, h2, h3, h4, h5⟩ := h.ex
  have hA : ∀ wx, Bl W0 wx → wx.cell? ⟨g, 0, none⟩ = some (.int .i64 (G.n : Int)) ∧ wx.cell? ⟨g, 3, none⟩ = some (.slice ca G.n G.n) ∧ wx.cell? ⟨g, 4, none⟩ = some (.slice ma G.n G.n) := fun wx hb => by
    have q := hb.has h1
    exact ⟨q.cell (o := 0) rfl, q.cell (o := 3) rfl, q.cell (o := 4) rfl⟩
  obtain ⟨bc, oc, cc, ec, fc⟩ := h4.cells hn1
  obtain ⟨bm, om, cm, em, fm⟩ := h5.cells hn1
  simp only [Value.slice.injEq, true_and] at ec em
  obtain ⟨rfl, ec⟩ := ec
  obtain ⟨rfl, em⟩ := em
  replace ec := Lib.hid ec
  replace em := Lib.hid em
  obtain ⟨c0, c3, c4⟩ := hA w hB
  replace hpost := Lib.hid hpost
  go_enter Try.func55, Try.ntmps55
  go_wp2_with fail
  clear c0 c3 c4
  have hct : ∀ wx k, Bl W0 wx → k < G.n → wx.cell? ⟨bc, oc + k, none⟩ = some (.int .i64 ((G.ct.getD k 0 : Nat) : Int)) ∧ wx.cell? ⟨bm, om + k, none⟩ = some (.int .i64 ((G.md.getD k 0 : Nat) : Int)) := fun wx k hb hk => by
    have q1 := fc k _ (nats_get G.ct k _ (get_of_lt 0 (by rw [ok.cl]; exact hk)))
    have q2 := fm k _ (nats_get G.md k _ (get_of_lt 0 (by rw [ok.ml]; exact hk)))
    exact ⟨hb.cell q1, hb.cell q2⟩
  replace hct := Lib.hid hct
  replace hA := Lib.hid hA
  go_loopw [5] (fun iv wr => ∃ (m : Nat) (T' : List Nat), m ≤ G.n ∧ iv = .int .i64 ((m : Int) - 1) ∧ T'.length = G.n ∧ nextP G G.n T = nextP G m T' ∧ RowAt wr b T' ∧ Only (fun k => k = b) w wr) (fun iv _ => (intOf iv + 1).toNat)
  case atStart => exact ⟨G.n, T, Nat.le_refl _, by first | rfl | (congr 1; unfold wrap64; omega), hT, rfl, hr, Only.refl _ _⟩
  case round =>
    obtain ⟨m, T', hm, rfl, hT', hnp, hrr, hO⟩ := hrel
    have hBr : Bl W0 wr := hB.only hO (fun _ e => by omega)
    cases m with
    | zero =>
      rw [show (((0 : Nat) : Int) - 1) = -1 from rfl]
      have hfin : post (.returned (.bool false)) wr := by
        rw [← hpost.out]
        refine ⟨by rw [hnp]; rfl, by rw [hnp]; exact hrr, hO⟩
      replace hfin := Lib.hid hfin
      replace hnp := Lib.hid hnp
      clear hrr hO
      go_wp2_with fail
      first | exact hfin.out | (go_ret; exact hfin.out)
    | succ k =>
      rw [show (((k + 1 : Nat) : Int) - 1) = (k : Int) by omega]
      obtain ⟨c0, c3, c4⟩ := hA.out wr hBr
      obtain ⟨cc, cm⟩ := hct.out wr k hBr (by omega)
      obtain ⟨cT, fT⟩ := hrr k (by omega)
      have d0 : decide ((0 : Int) ≤ (k : Int)) = true := decide_eq_true (by omega)
      have hk0 : (0 : Int) ≤ (k : Int) := by omega
      have hkn : (k : Int) < (G.n : Int) := by omega
      have hcb := ok.cb _ (mem_getD 0 (by rw [ok.cl]; omega) : G.ct.getD k 0 ∈ G.ct)
      have hmb := ok.mb _ (mem_getD 0 (by rw [ok.ml]; omega) : G.md.getD k 0 ∈ G.md)
      have hset1 := fun d => (show RowAt (wr.drewN d) b T' from hrr).set k (T'.getD k 0 + 1) (by omega)
      have hset2 := fun d => (show RowAt (wr.drewN d) b T' from hrr).set k (G.md.getD k 0) (by omega)
      have hstep : nextP G (k + 1) T' = if T'.getD k 0 < G.ct.getD k 0 then (T'.set k (T'.getD k 0 + 1), true) else nextP G k (T'.set k (G.md.getD k 0)) := rfl
      have hO2 : ∀ v d, Only (fun j => j = b) w ((wr.drewN d).setCell ⟨b, k, none⟩ v) := fun v d => (hO.drewN d).setCell (a := ⟨b, k, none⟩) (fun _ => rfl) v
      have hO2a := hO2 (.int .i64 ((T'.getD k 0 + 1 : Nat) : Int))
      have hO2b := hO2 (.int .i64 ((G.md.getD k 0 : Nat) : Int))
      have hwk := Lib.hid (show wrap64 ((k : Int) - 1) = (k : Int) - 1 by unfold wrap64; omega)
      have hl1 : (T'.set k (T'.getD k 0 + 1)).length = G.n := by simpa using hT'
      have hl2 : (T'.set k (G.md.getD k 0)).length = G.n := by simpa using hT'
      clear hO2 hrr hO
      generalize T'.set k (T'.getD k 0 + 1) = T1 at *
      generalize T'.set k (G.md.getD k 0) = T2 at *
      generalize hti : T'.getD k 0 = t at *
      generalize hci : G.ct.getD k 0 = ci at *
      generalize hmi : G.md.getD k 0 = mi at *
      replace hti := Lib.hid hti
      replace hci := Lib.hid hci
      replace hmi := Lib.hid hmi
      by_cases hlt : t < ci
      · rw [if_pos hlt] at hstep
        have d1 : decide ((t : Int) < (ci : Int)) = true := decide_eq_true (by omega)
        have d1N : decide (t < ci) = true := decide_eq_true hlt
        have hfin : ∀ d, post (.returned (.bool true)) ((wr.drewN d).setCell ⟨b, k, none⟩ (.int .i64 ((t : Int) + 1))) := fun d => by
          rw [← hpost.out]
          refine ⟨by rw [hnp, hstep], by rw [hnp, hstep]; exact hset1 d, hO2a d⟩
        replace hfin := Lib.hid hfin
        replace hnp := Lib.hid hnp
        replace hstep := Lib.hid hstep
        clear hset1 hset2 hO2a hO2b
        go_wp2_with fail
        go_quiet (fail)
        go_wp2_with fail
        first | exact hfin.out _ | (go_ret; exact hfin.out _)
      · rw [if_neg hlt] at hstep
        have d1 : decide ((t : Int) < (ci : Int)) = false := decide_eq_false (by omega)
        have d1N : decide (t < ci) = false := decide_eq_false hlt
        have hrel2 : nextP G G.n T = nextP G k T2 := hnp.trans hstep
        replace hrel2 := Lib.hid hrel2
        replace hset2 := Lib.hid hset2
        replace hO2b := Lib.hid hO2b
        clear hset1 hO2a hnp hstep
        go_wp2_with fail
        go_quiet (fail)
        go_wp2_with fail
        exact ⟨⟨k, T2, by omega, rfl, hl2, hrel2.out, hset2.out _, hO2b.out _⟩, by simp [intOf]⟩
end Go.Proofs.Ytjmdibgncaljaaa
