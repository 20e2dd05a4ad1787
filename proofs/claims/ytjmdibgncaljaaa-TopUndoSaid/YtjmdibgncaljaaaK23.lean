/- crashset: a set whose blocks are kept, whatever else changes; the iterator's state between two rounds. crashset: the iterator of All. crashset: All of a device: the closure over the boxes of its arguments. -/
import Derived.Test.YtjmdibgncaljaaaK20
import Derived.Test.YtjmdibgncaljaaaItB
import Derived.Test.YtjmdibgncaljaaaK13
namespace Go.Proofs.Ytjmdibgncaljaaa.Dev
open Go.RowKit Go.Maps
variable {w C : World} {R : Dv} {B N : Nat} {pv lv hv : Value}
theorem SetNew.keep (h : SetNew w R B pv lv hv) (hs : w.heap.size ≤ C.heap.size) (hc : ∀ k, B ≤ k → k < w.heap.size → C.heap[k]? = w.heap[k]?) : SetSt C R pv lv hv := by
  have ho : Only (fun k => k < B) w { w with heap := C.heap } := ⟨rfl, rfl, rfl, hs, fun k hk hn => hc k (by omega) hk⟩
  obtain ⟨⟨b, h1, h2, f1⟩, ⟨a, c, h3, h4, f2⟩, ⟨a', c', vs, h5, h6, h7, f3, f4⟩⟩ := h
  have p1 := h2.only ho (by omega)
  have p2 := h4.only ho (fun k hk => by have := f2 k hk; omega)
  have p3 := h6.only ho (fun v hv k hk => by have := f4 v hv k hk; omega)
  have p4 := h7.only ho (fun k hk => by have := f3 k hk; omega)
  refine ⟨⟨b, h1, p1⟩, ⟨a, c, h3, p2⟩, ⟨a', c', vs, h5, ⟨p3.1, fun i l hl => ?_⟩, p4⟩⟩
  obtain ⟨x, y, g1, g2⟩ := p3.2 i l hl
  exact ⟨x, y, g1, g2⟩
theorem digR_zero (R : Dv) (ds : List Nat) : digR R ds 0 = List.replicate ds.length 0 := by
  have h0 : ∀ ds : List Nat, restR R ds 0 = 0 := fun ds => Nat.le_zero.1 (rest_le R ds 0)
  induction ds with
  | nil => rfl
  | cons l r ih => rw [digR, ih, h0, Nat.zero_mod, List.length_cons, List.replicate_succ]
theorem rest_zero0 (R : Dv) (ds : List Nat) : restR R ds 0 = 0 := Nat.le_zero.1 (rest_le R ds 0)
/-- The blocks of the iterator: from D on, up to behind its row. -/
def allC (D kb : Nat) (k : Nat) : Prop := D ≤ k ∧ k ≤ kb
/-- What the iterator holds between two rounds: the set as examine gave it in w1, its box, and the row of n's digits. -/
structure AllAt (w1 : World) (D : Nat) (R : Dv) (pv lv hv : Value) (n : Nat) (wr : World) : Prop where
  hs : w1.heap.size + 1 < wr.heap.size
  same : ∀ k, D ≤ k → k < w1.heap.size → wr.heap[k]? = w1.heap[k]?
  box : Has wr w1.heap.size [pv, lv, hv] 127
  row : Has wr (w1.heap.size + 1) (nats (digR R (dirtyL R) n)) 3
theorem AllAt.st {w1 wr : World} {D n : Nat} (h : AllAt w1 D R pv lv hv n wr) (hn : SetNew w1 R D pv lv hv) : SetSt wr R pv lv hv := hn.keep (by have := h.hs; omega) h.same
theorem AllAt.keep {w1 wr : World} {D n : Nat} (h : AllAt w1 D R pv lv hv n wr) (hD : D ≤ w1.heap.size) (hs : wr.heap.size ≤ C.heap.size) (hc : ∀ k, allC D (w1.heap.size + 1) k → C.heap[k]? = wr.heap[k]?) : AllAt w1 D R pv lv hv n C := by
  have h1 := h.hs
  refine ⟨by omega, fun k h2 h3 => (hc k ⟨h2, by omega⟩).trans (h.same k h2 h3), ?_, ?_⟩
  · have := h.box; unfold Has at *; rw [hc _ ⟨hD, by omega⟩]; exact this
  · have := h.row; unfold Has at *; rw [hc _ ⟨by omega, by omega⟩]; exact this
theorem AllAt.next {w1 wr : World} {D n : Nat} (h : AllAt w1 D R pv lv hv n wr) (ho : Only (fun q => q = w1.heap.size + 1) wr C) (hr : Has C (w1.heap.size + 1) (nats (digR R (dirtyL R) (n + 1))) 3) : AllAt w1 D R pv lv hv (n + 1) C := by
  have h1 := h.hs
  refine ⟨by have := ho.size; omega, fun k h2 h3 => (ho.block k (by omega) (by omega)).trans (h.same k h2 h3), h.box.only ho (by omega), hr⟩
end Go.Proofs.Ytjmdibgncaljaaa.Dev

namespace Go.Proofs.Ytjmdibgncaljaaa.Dev
open Go.RowKit Go.Maps
attribute [local go_sem] Oper.semAt_some
variable {w : World} {F : Own} {o T : Nat} {R : Dv} {L : Lay}
theorem ItStep.of_only' {c S : Nat → Prop} {A C : World} (h : Only S A C) (hs : ∀ k, S k → c k) : ItStep c A C := ⟨h.size, fun k hk hc => h.block k hk (fun e => hc (hs k e)), h.os, h.tape, h.output⟩
set_option maxHeartbeats 4000000 in
set_option maxRecDepth 100000 in
theorem all_own (n : Nat) (b1 b2 : Nat) (lim : Int) (W : World) (hlim : lim ≤ 1000000) (hD : DevSt W F o L T R) (hb1 : W.cell? ⟨b1, 0, none⟩ = some (.pointer (some ⟨L.g, 0, none⟩))) (hb2 : W.cell? ⟨b2, 0, none⟩ = some (.int .i64 lim)) :
    SeqOwn Fence.wide n Try.prog 58 #[.pointer (some ⟨b1, 0, none⟩), .pointer (some ⟨b2, 0, none⟩)] (fun x : Nat => #[.agg #[.string (strOf (atB R x))]]) (fun k => k = b2)
      (fun _ pre x _ => x = pre.length ∧ restR R (dirtyL R) x = 0) (fun xs => xs.length = min lim.toNat (prodL R (dirtyL R))) (fun _ => True) lim.toNat W := by
  intro lp J Jx hJ hJx hY h0
  have hok := hD.ok
  have hpp := prodL_pos R (dirtyL R)
  have hex := examine_new hD
  generalize hpost : ItDone (fun xs : List Nat => xs.length = min lim.toNat (prodL R (dirtyL R))) (fun _ => True) J Jx W = post
  replace hpost := Lib.hid hpost
  refine callsIn_of_wp Try.func58 rfl trivial ?_ rfl
  simp only [Try.ntmps58, List.size_toArray, List.length_cons, List.length_nil, Nat.reduceAdd, Nat.reduceSub, Array.replicate_succ, Array.replicate_zero, List.push_toArray, List.append_toArray, List.nil_append, List.cons_append]
  replace hY := Lib.hid hY
  replace hJ := Lib.hid hJ
  replace hJx := Lib.hid hJx
  replace h0 := Lib.hid h0
  replace hex := Lib.hid hex
  replace hlim := Lib.hid hlim
  clear hD
  by_cases hlim0 : lim < 1
  · have hd : decide (lim < 1) = true := decide_eq_true hlim0
    gi_wp2
    refine bodyPost_ret (results_none rfl _ _ _) rfl ?_
    rw [← hpost.out]
    refine ⟨⟨_, rfl⟩, .inl ⟨fun _ => False, [], fun _ h => h.elim, ?_, h0.out _ (fun _ h => h.elim)⟩⟩
    show 0 = min lim.toNat _
    rw [show lim.toNat = 0 by omega, Nat.zero_min]
  · have hd : decide (lim < 1) = false := decide_eq_false hlim0
    have hn2 := hok.n2
    have hdl0 : (dirtyL R).length ≤ R.lines.length := dirtyTo_len R R.lines.length
    gi_wp2_with (refine ⟨trivial, fun h => (by cases h), ?_⟩; gi_at_call 51; refine (callsIn_wide.2 hex.out).mono ?_; rintro e w1 ⟨pv, lv, hv, rfl, hN, hB⟩)
    obtain ⟨⟨pb, rfl, _, _⟩, ⟨la, lc, rfl, _, _⟩, ⟨ha, hc, vs, rfl, hHi, hRd, hf1, _⟩⟩ := id hN
    have hmk := make1 (P := Try.prog) 49 3 (.int .i64 0) 8 Try.underlying49 infoInt rfl (dirtyL R).length (by omega) (by omega) (w1.alloc (.cells #[.slice (some ⟨pb, 0, none⟩) (bytesL R.perW).length (bytesL R.perW).length, .slice la (dirtyL R).length lc, .slice ha (dirtyL R).length hc] 127))
    have hBx := hB.size
    have hb2l := World.block_lt_of_cell? _ _ hb2
    have hb2w := (hB.cell hb2l).trans hb2
    have hcW : ∀ k, allC W.heap.size (w1.heap.size + 1) k → W.heap.size ≤ k := fun k hk => hk.1
    have hS := (Has.new w1 [.slice (some ⟨pb, 0, none⟩) (bytesL R.perW).length (bytesL R.perW).length, .slice la (dirtyL R).length lc, .slice ha (dirtyL R).length hc] 127)
    have hB2 : Below W.heap.size W (w1.alloc (.cells #[.slice (some ⟨pb, 0, none⟩) (bytesL R.perW).length (bytesL R.perW).length, .slice la (dirtyL R).length lc, .slice ha (dirtyL R).length hc] 127)) := hB.alloc hBx _
    have hB3 := hB2.alloc hB2.size (.cells (Array.replicate (dirtyL R).length (.int .i64 0)) 3)
    have hA0 := Has.rep (w1.alloc (.cells #[.slice (some ⟨pb, 0, none⟩) (bytesL R.perW).length (bytesL R.perW).length, .slice la (dirtyL R).length lc, .slice ha (dirtyL R).length hc] 127)) (dirtyL R).length (.int .i64 0) 3
    rw [show List.replicate (dirtyL R).length (.int .i64 0) = nats (digR R (dirtyL R) 0) by rw [digR_zero]; simp [nats]] at hA0
    simp only [World.size_alloc] at hA0
    obtain ⟨w3, hw3⟩ : ∃ w3, w3 = (w1.alloc (.cells #[.slice (some ⟨pb, 0, none⟩) (bytesL R.perW).length (bytesL R.perW).length, .slice la (dirtyL R).length lc, .slice ha (dirtyL R).length hc] 127)).alloc (.cells (Array.replicate (dirtyL R).length (.int .i64 0)) 3) := ⟨_, rfl⟩
    have hAll : AllAt w1 W.heap.size R (.slice (some ⟨pb, 0, none⟩) (bytesL R.perW).length (bytesL R.perW).length) (.slice la (dirtyL R).length lc) (.slice ha (dirtyL R).length hc) 0 w3 := by
      rw [hw3]
      refine ⟨by simp, fun k h1 h2 => ?_, hS.alloc _, hA0⟩
      exact (Below.heap_alloc _ _ _ (by simp; omega)).trans (Below.heap_alloc _ _ _ h2)
    have hJ3 : J (allC W.heap.size (w1.heap.size + 1)) [] w3 := by
      rw [hw3]; exact hJ.out _ [] W _ hcW (h0.out _ hcW) (ItStep.of_below (Nat.le_refl _) hB3)
    have hb23 : w3.cell? ⟨b2, 0, none⟩ = some (.int .i64 lim) := by rw [hw3]; exact (hB3.cell hb2l).trans hb2
    have hfl : 0 < (dirtyL R).length → ∀ q, Value.ownBlock (.slice ha (dirtyL R).length hc) = some q → q ≠ w1.heap.size + 1 := fun hpos q hq => by
      obtain ⟨bl, ol, cl, ea, fa⟩ := hRd.cells hpos
      simp only [Value.slice.injEq, true_and] at ea
      obtain ⟨rfl, _⟩ := ea
      obtain ⟨l0, c0', x0, _⟩ := hHi.2 0 _ (get_of_lt 0 hpos)
      have hq2 : bl < w1.heap.size := World.block_lt_of_cell? _ _ (fa _ _ x0)
      cases hq; show bl ≠ _; omega
    replace hfl := Lib.hid hfl
    replace hAll := Lib.hid hAll
    replace hJ3 := Lib.hid hJ3
    replace hN := Lib.hid hN
    replace hw3 := Lib.hid hw3
    replace hf1 := Lib.hid hf1
    clear hS hB2 hB3 hA0 h0 hex hb1 hHi hRd
    gi_wp2
    rw [← hw3.out]
    gi_loopw [6] (fun nv wr => ∃ pre : List Nat, nv = .int .i64 (pre.length : Int) ∧ restR R (dirtyL R) pre.length = 0 ∧ pre.length ≤ lim.toNat ∧ AllAt w1 W.heap.size R (.slice (some ⟨pb, 0, none⟩) (bytesL R.perW).length (bytesL R.perW).length) (.slice la (dirtyL R).length lc) (.slice ha (dirtyL R).length hc) pre.length wr ∧
      wr.cell? ⟨b2, 0, none⟩ = some (.int .i64 lim) ∧ J (allC W.heap.size (w1.heap.size + 1)) pre wr) (fun nv _ => lim.toNat - (intOf nv).toNat)
    case atStart => exact ⟨[], rfl, rest_zero0 R _, Nat.zero_le _, hAll.out, hb23, hJ3.out⟩
    case round =>
      clear hAll hJ3 hb23
      obtain ⟨pre, rfl, hrz, hpl, hAt, hbl, hJp⟩ := hrel
      by_cases hlt : pre.length < lim.toNat
      · have hltI : decide ((pre.length : Int) < lim) = true := decide_eq_true (by omega)
        have hst := hAt.st hN.out
        have s0 := hAt.box.cell (o := 0) rfl
        have s1 := hAt.box.cell (o := 1) rfl
        have s2 := hAt.box.cell (o := 2) rfl
        have hdl := digR_len R (dirtyL R) pre.length
        have him := cimage_any hok hst (some ⟨w1.heap.size + 1, 0, none⟩) (digR R (dirtyL R) pre.length).length (digR R (dirtyL R) pre.length) (Rd.of_has hAt.row _ _) hdl (fun i l hl => digR_le R _ pre.length i l hl)
        rw [hdl] at him
        replace him := Lib.hid him
        replace hrz := Lib.hid hrz
        gi_wp2_with (refine ⟨trivial, fun h => (by cases h), ?_⟩; gi_at_call 59; refine (callsIn_wide.2 him.out).mono ?_; rintro e w2 ⟨rfl, hB2⟩)
        have hc2 : ∀ k, allC W.heap.size (w1.heap.size + 1) k → w2.heap[k]? = wr.heap[k]? := fun k hk => hB2.block k (by have := hAt.hs; have := hk.2; omega)
        have hAt2 := hAt.keep hBx hB2.size hc2
        have hb22 := (hB2.cell (World.block_lt_of_cell? _ _ hbl)).trans hbl
        have hJ2 := hJ.out _ pre wr w2 hcW hJp (ItStep.of_below (Nat.le_refl _) hB2)
        obtain ⟨fn, tmps, assign, body, hy, hR⟩ := hY.out _ pre pre.length w2 hcW hJ2 ⟨rfl, hrz.out⟩ hlt
        dsimp only [atB] at hy
        clear hAt hbl hJp s0 s1 s2 hst him
        gi_wp2
        rw [hy]
        gi_wp2
        refine ⟨fun h => (by cases h), hR.mono ?_⟩
        clear hR hy hY
        rintro e W3 (⟨rfl, hJ3, hk3⟩ | ⟨rfl, hJx3⟩)
        · have hAt3 := hAt2.keep hBx hk3.1 (fun k hk => hk3.at (.inl hk) (by have := hAt2.hs; have := hk.2; omega))
          have hb23 := hk3.cell (p := ⟨b2, 0, none⟩) (.inr rfl) hb22
          have hnc := cnext_any hok (hAt3.st hN.out) pre.length (w1.heap.size + 1) hAt3.row hfl.out
          have s0 := hAt3.box.cell (o := 0) rfl
          have s1 := hAt3.box.cell (o := 1) rfl
          have s2 := hAt3.box.cell (o := 2) rfl
          have hst3 : ∀ w4, Only (fun q => q = w1.heap.size + 1) W3 w4 → w4.cell? ⟨b2, 0, none⟩ = some (.int .i64 lim) ∧ J (allC W.heap.size (w1.heap.size + 1)) (pre ++ [pre.length]) w4 := fun w4 h =>
            ⟨h.cell hb23 (by show ¬ b2 = w1.heap.size + 1; omega), hJ.out _ _ W3 w4 hcW hJ3 (ItStep.of_only' h (fun k e => ⟨by omega, by omega⟩))⟩
          have hl1 : (pre ++ [pre.length]).length = pre.length + 1 := by rw [List.length_append, List.length_singleton]
          replace hst3 := Lib.hid hst3
          clear hAt2 hb22 hJ2 hJ3 hk3 hc2 hB2
          by_cases hz : restR R (dirtyL R) (pre.length + 1) = 0
          · have hnc2 := hnc.mono (R' := fun e w' => Only (fun q => q = w1.heap.size + 1) W3 w' ∧ e = .returned (.bool true) ∧ Has w' (w1.heap.size + 1) (nats (digR R (dirtyL R) (pre.length + 1))) 3) (fun e w' h => ⟨h.1, by
              rcases h.2 with ⟨h1, _, h3⟩ | ⟨_, h2⟩
              · exact ⟨h1, h3⟩
              · rw [hz] at h2; omega⟩)
            replace hnc2 := Lib.hid hnc2
            replace hAt3 := Lib.hid hAt3
            clear hnc
            gi_wp2_with (refine ⟨trivial, fun h => (by cases h), ?_⟩; gi_at_call 60; refine (callsIn_wide.2 hnc2.out).mono ?_; rintro e w4 ⟨hon, rfl, hrow⟩)
            obtain ⟨hb4, hJ4⟩ := hst3.out w4 hon
            have hAt4 := hAt3.out.next hon hrow
            have hwr := Lib.hid (show wrap64 ((pre.length : Int) + 1) = ((pre.length + 1 : Nat) : Int) by have := hlim.out; unfold wrap64; omega)
            have hrel : ∃ pre' : List Nat, Value.int .i64 ((pre.length + 1 : Nat) : Int) = .int .i64 (pre'.length : Int) ∧ restR R (dirtyL R) pre'.length = 0 ∧ pre'.length ≤ lim.toNat ∧ AllAt w1 W.heap.size R (.slice (some ⟨pb, 0, none⟩) (bytesL R.perW).length (bytesL R.perW).length) (.slice la (dirtyL R).length lc) (.slice ha (dirtyL R).length hc) pre'.length w4 ∧
                w4.cell? ⟨b2, 0, none⟩ = some (.int .i64 lim) ∧ J (allC W.heap.size (w1.heap.size + 1)) pre' w4 :=
              ⟨pre ++ [pre.length], by rw [hl1], by rw [hl1]; exact hz, by rw [hl1]; omega, by rw [hl1]; exact hAt4, hb4, hJ4⟩
            replace hrel := Lib.hid hrel
            clear hAt4 hb4 hJ4 hon hrow hnc2 hst3 hAt3
            gi_wp2
            rw [hwr.out]
            exact ⟨hrel.out, by simp [intOf]; omega⟩
          · have hnc2 := hnc.mono (R' := fun e w' => Only (fun q => q = w1.heap.size + 1) W3 w' ∧ e = .returned (.bool false) ∧ restR R (dirtyL R) (pre.length + 1) = restR R (dirtyL R) pre.length + 1) (fun e w' h => ⟨h.1, by
              rcases h.2 with ⟨_, h2, _⟩ | ⟨h1, h2⟩
              · rw [hrz.out] at h2; exact absurd h2 hz
              · exact ⟨h1, h2⟩⟩)
            replace hnc2 := Lib.hid hnc2
            clear hnc
            gi_wp2_with (refine ⟨trivial, fun h => (by cases h), ?_⟩; gi_at_call 60; refine (callsIn_wide.2 hnc2.out).mono ?_; rintro e w4 ⟨hon, rfl, hr1⟩)
            obtain ⟨hb4, hJ4⟩ := hst3.out w4 hon
            gi_wp2
            refine bodyPost_ret (results_none rfl _ _ _) rfl ?_
            rw [← hpost.out]
            refine ⟨⟨_, rfl⟩, .inl ⟨_, pre ++ [pre.length], hcW, ?_, hJ4⟩⟩
            show (pre ++ [pre.length]).length = _
            rw [hl1]
            have h1 := rest_zero hrz.out
            have h2 : prodL R (dirtyL R) ≤ pre.length + 1 := by
              rcases Nat.lt_or_ge (pre.length + 1) (prodL R (dirtyL R)) with h | h
              · have := rest_div R (dirtyL R) (pre.length + 1)
                rw [← prod_rl, Nat.div_eq_of_lt h] at this
                exact absurd this hz
              · exact h
            omega
        · gi_wp2
          refine ⟨trivial, ?_⟩
          gi_wp2
          refine bodyPost_ret (results_none rfl _ _ _) rfl ?_
          rw [← hpost.out]
          exact ⟨⟨_, rfl⟩, .inr ⟨_, pre ++ [pre.length], hcW, trivial, hJx3⟩⟩
      · have hltI : decide ((pre.length : Int) < lim) = false := decide_eq_false (by omega)
        clear hAt
        gi_wp2
        refine bodyPost_ret (results_none rfl _ _ _) rfl ?_
        rw [← hpost.out]
        refine ⟨⟨_, rfl⟩, .inl ⟨_, pre, hcW, ?_, hJp⟩⟩
        show pre.length = _
        have := rest_zero hrz
        omega
end Go.Proofs.Ytjmdibgncaljaaa.Dev

namespace Go.Proofs.Ytjmdibgncaljaaa.Dev
open Go.RowKit
theorem call_CAll (w : World) (g : Nat) (n : Int) : Calls Try.prog 17 #[.pointer (some ⟨g, 0, none⟩), .int .i64 n] w fun e w' => e = .returned (.func (.func 58) #[] #[.pointer (some ⟨w.heap.size, 0, none⟩), .pointer (some ⟨w.heap.size + 1, 0, none⟩)]) ∧ Below w.heap.size w w' ∧
    w'.cell? ⟨w.heap.size, 0, none⟩ = some (.pointer (some ⟨g, 0, none⟩)) ∧ w'.cell? ⟨w.heap.size + 1, 0, none⟩ = some (.int .i64 n) := by
  have B1 := (Below.refl w.heap.size w).alloc (Nat.le_refl _) (.cells #[Value.pointer (some ⟨g, 0, none⟩)] 36)
  have B := Lib.hid (B1.alloc B1.size (.cells #[Value.int .i64 n] 3))
  have h1 := (Has.new w [Value.pointer (some ⟨g, 0, none⟩)] 36).alloc (.cells #[Value.int .i64 n] 3)
  have h2 := Has.new (w.alloc (.cells #[Value.pointer (some ⟨g, 0, none⟩)] 36)) [Value.int .i64 n] 3
  simp only [World.size_alloc] at h2
  have c1 := Lib.hid (h1.cell (o := 0) rfl)
  have c2 := Lib.hid (h2.cell (o := 0) rfl)
  clear B1 h1 h2
  go_enter Try.func17, Try.ntmps17
  go_wp2_with fail
  go_ret
  exact ⟨by simp, B.out, c1.out, c2.out⟩
end Go.Proofs.Ytjmdibgncaljaaa.Dev
