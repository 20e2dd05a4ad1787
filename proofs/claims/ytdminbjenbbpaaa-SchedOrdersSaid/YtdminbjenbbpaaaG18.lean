/- The iterator of Interleavings: what it holds between two rounds. -/
import Derived.Test.YtdminbjenbbpaaaG15
import Derived.Test.YtdminbjenbbpaaaG16
import Derived.Test.YtdminbjenbbpaaaIt
namespace Go.Proofs.Ytdminbjenbbpaaa
open Go.RowKit
attribute [local go_sem] Oper.semAt_some
theorem ItStep.of_only {c S : Nat → Prop} {A C : World} (h : Only S A C) (hs : ∀ k, S k → c k) : ItStep c A C := ⟨h.size, fun k hk hc => h.block k hk (fun e => hc (hs k e)), h.os, h.tape, h.output⟩
theorem RowAt.kept {A C : World} {b : Nat} {L : List Nat} (h : RowAt A b L) (hh : C.heap[b]? = A.heap[b]?) : RowAt C b L := fun j hj =>
  ⟨(World.cell?_of_block hh).trans (h j hj).1, (World.frozen?_of_block hh).trans (h j hj).2⟩
/-- The row of the sequence: block b of its own, or none if the sequence is empty. -/
def PicksAt (D : Nat) (c : Nat → Prop) (w : World) (sa : Option Addr) (cap : Nat) (L : List Nat) : Prop :=
  (L = [] ∧ ∀ k, ¬ c k) ∨ ∃ b, sa = some ⟨b, 0, none⟩ ∧ RowAt w b L ∧ L.length ≤ cap ∧ D ≤ b ∧ b < w.heap.size ∧ ∀ k, c k ↔ k = b
def intsN (L : List Nat) : List Value := L.map fun (n : Nat) => Value.int .i64 (n : Int)
theorem PicksAt.rd {D : Nat} {c : Nat → Prop} {w : World} {sa : Option Addr} {cap : Nat} {L : List Nat} (h : PicksAt D c w sa cap L) : Rd w (.slice sa L.length cap) L.length (intsN L) := by
  rcases h with ⟨rfl, _⟩ | ⟨b, rfl, hr, _⟩
  · exact ⟨sa, cap, rfl, .inl ⟨rfl, rfl⟩⟩
  · refine ⟨_, cap, rfl, .inr ⟨b, 0, rfl, fun j u hu => ?_⟩⟩
    unfold intsN at hu
    rw [List.getElem?_map] at hu
    by_cases hj : j < L.length
    · rw [List.getElem?_eq_getElem hj] at hu
      rw [Nat.zero_add, (hr j hj).1, List.getD_eq_getElem?_getD, List.getElem?_eq_getElem hj]
      exact hu
    · rw [List.getElem?_eq_none (by omega)] at hu; cases hu
theorem PicksAt.kept {D : Nat} {c : Nat → Prop} {A C : World} {sa : Option Addr} {cap : Nat} {L : List Nat} (h : PicksAt D c A sa cap L) (hs : A.heap.size ≤ C.heap.size) (hk : ∀ k, c k → C.heap[k]? = A.heap[k]?) : PicksAt D c C sa cap L := by
  rcases h with h | ⟨b, h1, h2, h3, h4, h5, h6⟩
  · exact .inl h
  · exact .inr ⟨b, h1, h2.kept (hk b ((h6 b).2 rfl)), h3, h4, by omega, h6⟩
theorem PicksAt.lt {D : Nat} {c : Nat → Prop} {w : World} {sa : Option Addr} {cap : Nat} {L : List Nat} (h : PicksAt D c w sa cap L) : ∀ k, c k → D ≤ k ∧ k < w.heap.size := by
  rcases h with ⟨_, h⟩ | ⟨b, _, _, _, h4, h5, h6⟩
  · exact fun k hk => absurd hk (h k)
  · intro k hk; obtain rfl := (h6 k).1 hk; exact ⟨h4, h5⟩
theorem first_picks (l : List Int) (v : Value) (w : World) (hv : Rd w v l.length (l.map (Value.int .i64))) (hl : l.length ≤ 64) (hs : ∀ s ∈ l, -1000 ≤ s ∧ s ≤ 1000) :
    Calls Try.prog 45 #[v] w fun e w' => ∃ c sa cap, e = .returned (.tuple #[.slice sa (firstL (sz l) l.length).length cap, .bool true]) ∧ PicksAt w.heap.size c w' sa cap (firstL (sz l) l.length) ∧ Below w.heap.size w w' := by
  refine (first_any l v w hv hl hs).mono ?_
  rintro e w' ⟨sa, cap, rfl, h1, h2, h3⟩
  generalize firstL (sz l) l.length = L at *
  by_cases hne : L = []
  · exact ⟨fun _ => False, sa, cap, rfl, .inl ⟨hne, fun _ h => h⟩, h2⟩
  · obtain ⟨b, rfl, hc, hr⟩ := RowAt.of_own hne h1
    refine ⟨fun k => k = b, _, cap, rfl, .inr ⟨b, rfl, hr, hc, h3 b rfl, ?_, fun k => Iff.rfl⟩, h2⟩
    have hpos : 0 < L.length := List.length_pos_iff.2 hne
    exact World.block_lt_of_cell? _ _ (hr 0 hpos).1
theorem next_picks (m : Nat) {D : Nat} {c : Nat → Prop} {w : World} {sa : Option Addr} {cap : Nat} {L : List Nat} (h : PicksAt D c w sa cap L) (hl : L.length ≤ 4096) (hm : ∀ z ∈ L, z < m) :
    Calls Try.prog 46 #[.slice sa L.length cap] w fun e w' => ItStep c w w' ∧ ((e = .returned (.bool false) ∧ rem m L = 0 ∧ nextO L = none) ∨
      (e = .returned (.bool true) ∧ ∃ L', PicksAt D c w' sa cap L' ∧ L'.length = L.length ∧ (∀ z ∈ L', z < m) ∧ rem m L = rem m L' + 1 ∧ nextO L = some L')) := by
  rcases h with ⟨rfl, hc⟩ | ⟨b, rfl, h2, h3, h4, h5, h6⟩
  · refine (next_empty sa cap w).mono ?_
    rintro e w' ⟨rfl, d, rfl⟩
    exact ⟨.of_only ((Only.refl (fun _ => False) w).drewN d) (fun _ h => h.elim), .inl ⟨rfl, rem_desc m [] List.Pairwise.nil, rfl⟩⟩
  · refine (next_any m L b cap w h2 hl h3 hm).mono ?_
    rintro e w' ⟨hb, ho, h⟩
    refine ⟨.of_only ho (fun k e => (h6 k).2 e), ?_⟩
    rcases h with h | ⟨rfl, L', g1, g2, g3, g4, g5⟩
    · exact .inl h
    · exact .inr ⟨rfl, L', .inr ⟨b, rfl, g1, by omega, h4, by have := ho.size; omega, h6⟩, g2, g3, g4, g5⟩
/-- The sequence that comes when pre has come. -/
def NextIs (L0 : List Nat) (pre : List (Value × List Nat)) (L : List Nat) : Prop :=
  match pre.getLast? with
  | none => L = L0
  | some q => nextO q.2 = some L
def GivI (D : Nat) (L0 : List Nat) (c : Nat → Prop) (pre : List (Value × List Nat)) (x : Value × List Nat) (W : World) : Prop :=
  NextIs L0 pre x.2 ∧ x.2.length ≤ 4096 ∧ ∃ B, D ≤ B ∧ B ≤ W.heap.size ∧ (∀ k, c k → k < B) ∧ W.ownsRow B 3 1 x.1 x.2.length (intsN x.2)
def SeqsI (m : Nat) (lim : Int) (L0 : List Nat) (xs : List (Value × List Nat)) : Prop :=
  xs.length = min lim.toNat (rem m L0 + 1) ∧ (xs.length = lim.toNat ∨ ∃ q, xs.getLast? = some q ∧ nextO q.2 = none)
theorem intsN_len (L : List Nat) : (intsN L).length = L.length := List.length_map ..
theorem clone_picks {D : Nat} {c : Nat → Prop} {w : World} {sa : Option Addr} {cap : Nat} {L : List Nat} (h : PicksAt D c w sa cap L) (hl : L.length ≤ 4096) :
    Calls Try.prog 43 #[.slice sa L.length cap] w fun e w' => ∃ v', e = .returned v' ∧ w'.ownsRow w.heap.size 3 1 v' L.length (intsN L) ∧ Below w.heap.size w w' := by
  have e1 : intsN L = (L.map fun (n : Nat) => (n : Int)).map (Value.int .i64) := by unfold intsN; rw [List.map_map]; rfl
  have e2 : (L.map fun (n : Nat) => (n : Int)).length = L.length := List.length_map ..
  have := h.rd
  have hc := clone_own (L.map fun (n : Nat) => (n : Int)) (.slice sa L.length cap) w (by rw [e2, ← e1]; exact this) (by rw [e2]; omega)
  rw [e2, ← e1] at hc
  exact hc
set_option maxHeartbeats 4000000 in
theorem inter_own (n : Nat) (b1 b2 D m : Nat) (lim : Int) (l : List Int) (v : Value) (W : World) (hD : D ≤ W.heap.size) (hlim : lim ≤ 1000000)
    (hb1 : W.cell? ⟨b1, 0, none⟩ = some (.int .i64 lim)) (hb2 : W.cell? ⟨b2, 0, none⟩ = some v) (hv : Rd W v l.length (l.map (Value.int .i64)))
    (hl : l.length ≤ 64) (hs : ∀ s ∈ l, -1000 ≤ s ∧ s ≤ 1000) (hL : (firstL (sz l) l.length).length ≤ 4096) (hm : ∀ z ∈ firstL (sz l) l.length, z < m) :
    SeqOwn Fence.wide n Try.prog 44 #[.pointer (some ⟨b1, 0, none⟩), .pointer (some ⟨b2, 0, none⟩)] (fun x : Value × List Nat => #[x.1]) (fun k => k = b1)
      (GivI D (firstL (sz l) l.length)) (SeqsI m lim (firstL (sz l) l.length)) (fun _ => True) lim.toNat W := by
  intro lp J Jx hJ hJx hY h0
  have hf := first_picks l v W hv hl hs
  generalize firstL (sz l) l.length = L0 at *
  generalize hpost : ItDone (SeqsI m lim L0) (fun _ => True) J Jx W = post
  replace hpost := Lib.hid hpost
  refine callsIn_of_wp Try.func44 rfl trivial ?_ rfl
  simp only [Try.ntmps44, List.size_toArray, List.length_cons, List.length_nil, Nat.reduceAdd, Nat.reduceSub, Array.replicate_succ, Array.replicate_zero, List.push_toArray, List.append_toArray, List.nil_append, List.cons_append]
  by_cases hlim0 : lim < 1
  · have hd : decide (lim < 1) = true := decide_eq_true hlim0
    gi_wp2
    refine bodyPost_ret (results_none rfl _ _ _) rfl ?_
    rw [← hpost.out]
    refine ⟨⟨_, rfl⟩, .inl ⟨fun _ => False, [], fun _ h => h.elim, ⟨?_, .inl ?_⟩, h0 _ (fun _ h => h.elim)⟩⟩
    · rw [List.length_nil, show lim.toNat = 0 by omega, Nat.zero_min]
    · rw [List.length_nil, show lim.toNat = 0 by omega]
  · have hd : decide (lim < 1) = false := decide_eq_false hlim0
    replace hf := Lib.hid hf
    replace hL := Lib.hid hL
    replace hm := Lib.hid hm
    replace hlim := Lib.hid hlim
    replace hs := Lib.hid hs
    replace hl := Lib.hid hl
    replace hY := Lib.hid hY
    replace hJ := Lib.hid hJ
    replace hJx := Lib.hid hJx
    replace h0 := Lib.hid h0
    gi_wp2_with (refine ⟨trivial, fun h => (by cases h), ?_⟩; gi_at_call 45; refine (callsIn_wide.2 hf.out).mono ?_; rintro e w1 ⟨c, sa, cap, rfl, hP, hB⟩)
    have hcW : ∀ k, c k → W.heap.size ≤ k := fun k hk => (hP.lt k hk).1
    have hb1w : w1.cell? ⟨b1, 0, none⟩ = some (.int .i64 lim) := (hB.cell (World.block_lt_of_cell? _ _ hb1)).trans hb1
    have hJ1 : J c [] w1 := hJ.out c [] W w1 hcW (h0.out c hcW) (ItStep.of_below (Nat.le_refl _) hB)
    have hbW : b1 < W.heap.size := World.block_lt_of_cell? _ _ hb1
    replace hP := Lib.hid hP
    replace hJ1 := Lib.hid hJ1
    have hWs1 := hB.size
    clear hf hb1 hb2 hv hB h0
    gi_wp2
    gi_loopw [6] (fun nv wr => ∃ (pre : List (Value × List Nat)) (L : List Nat), nv = .int .i64 (pre.length : Int) ∧ L.length = L0.length ∧ (∀ z ∈ L, z < m) ∧ NextIs L0 pre L ∧ rem m L0 = rem m L + pre.length ∧ pre.length ≤ lim.toNat ∧
      PicksAt W.heap.size c wr sa cap L ∧ wr.cell? ⟨b1, 0, none⟩ = some (.int .i64 lim) ∧ W.heap.size ≤ wr.heap.size ∧ J c pre wr) (fun nv _ => lim.toNat - (intOf nv).toNat)
    case atStart => exact ⟨[], L0, rfl, rfl, hm.out, rfl, rfl, Nat.zero_le _, hP.out, hb1w, hWs1, hJ1.out⟩
    case round =>
      clear hP hJ1 hb1w
      obtain ⟨pre, L, rfl, hLL, hLm, hnx, hrm, hpl, hP, hbl, hWs, hJp⟩ := hrel
      by_cases hlt : pre.length < lim.toNat
      · have hltI : decide ((pre.length : Int) < lim) = true := decide_eq_true (by omega)
        have hc1 := clone_picks hP (by have := hL.out; omega)
        rw [hLL] at hc1
        have hst : ∀ w2, Below wr.heap.size wr w2 → PicksAt W.heap.size c w2 sa cap L ∧ w2.cell? ⟨b1, 0, none⟩ = some (.int .i64 lim) ∧ J c pre w2 := fun w2 h =>
          ⟨hP.kept h.size (fun k hk => h.block k (hP.lt k hk).2), (h.cell (World.block_lt_of_cell? _ _ hbl)).trans hbl, hJ.out c pre wr w2 hcW hJp (ItStep.of_below (Nat.le_refl _) h)⟩
        have hclt := hP.lt
        replace hst := Lib.hid hst
        replace hc1 := Lib.hid hc1
        replace hclt := Lib.hid hclt
        replace hLm := Lib.hid hLm
        replace hLL := Lib.hid hLL
        replace hrm := Lib.hid hrm
        replace hnx := Lib.hid hnx
        clear hP hJp
        gi_wp2_with (refine ⟨trivial, fun h => (by cases h), ?_⟩; gi_at_call 43; refine (callsIn_wide.2 hc1.out).mono ?_; rintro e w2 ⟨v', rfl, hown, hB2⟩)
        obtain ⟨hP2, hb2, hJ2⟩ := hst.out w2 hB2
        obtain ⟨fn, tmps, assign, body, hy, hR⟩ := hY.out c pre (v', L) w2 hcW hJ2 ⟨hnx.out, by rw [hLL.out]; exact hL.out, wr.heap.size, by omega, hB2.size, fun k hk => (hclt.out k hk).2, by rw [hLL.out]; exact hown⟩ hlt
        dsimp only at hy
        gi_wp2
        rw [hy]
        gi_wp2
        refine ⟨fun h => (by cases h), hR.mono ?_⟩
        clear hR hy hY
        rintro e W3 (⟨rfl, hJ3, hk3⟩ | ⟨rfl, hJx3⟩)
        · have hP3 := hP2.kept (C := W3) hk3.1 (fun k hk => hk3.at (.inl hk) (hP2.lt k hk).2)
          have hb3 := hk3.cell (p := ⟨b1, 0, none⟩) (.inr rfl) hb2
          have hnc := next_picks m hP3 (by have := hLL.out; have := hL.out; omega) hLm.out
          rw [hLL.out] at hnc
          have hst3 : ∀ w4, ItStep c W3 w4 → w4.cell? ⟨b1, 0, none⟩ = some (.int .i64 lim) ∧ J c (pre ++ [(v', L)]) w4 ∧ W.heap.size ≤ w4.heap.size := fun w4 h =>
            ⟨(h.roll 0).cell (fun hk => by have := hcW b1 hk; omega) hb3, hJ.out c _ W3 w4 hcW hJ3 h, by have h1 := hB2.size; have h2 := hk3.1; have h3 := h.1; omega⟩
          replace hst3 := Lib.hid hst3
          clear hP3 hP2 hJ2 hJ3 hk3 hown hst hB2 hb2 hb3
          cases hno : nextO L with
          | none =>
            have hnc2 := hnc.mono (R' := fun e w' => ItStep c W3 w' ∧ e = .returned (.bool false) ∧ rem m L = 0) (fun e w' h => ⟨h.1, by
              rcases h.2 with ⟨h1, h2, _⟩ | ⟨_, L', _, _, _, _, h5⟩
              · exact ⟨h1, h2⟩
              · rw [hno] at h5; cases h5⟩)
            replace hnc2 := Lib.hid hnc2
            replace hno := Lib.hid hno
            clear hnc
            gi_wp2_with (refine ⟨trivial, fun h => (by cases h), ?_⟩; gi_at_call 46; refine (callsIn_wide.2 hnc2.out).mono ?_; rintro e w4 ⟨hit, rfl, hr0⟩)
            obtain ⟨hb4, hJ4, hWs4⟩ := hst3.out w4 hit
            gi_wp2
            refine bodyPost_ret (results_none rfl _ _ _) rfl ?_
            rw [← hpost.out]
            have := hrm.out
            refine ⟨⟨_, rfl⟩, .inl ⟨c, pre ++ [(v', L)], hcW, ⟨?_, .inr ⟨(v', L), by simp, hno.out⟩⟩, hJ4⟩⟩
            rw [List.length_append, List.length_singleton]; omega
          | some L' =>
            have hnc2 := hnc.mono (R' := fun e w' => ItStep c W3 w' ∧ e = .returned (.bool true) ∧ PicksAt W.heap.size c w' sa cap L' ∧ L'.length = L0.length ∧ (∀ z ∈ L', z < m) ∧ rem m L = rem m L' + 1) (fun e w' h => ⟨h.1, by
              rcases h.2 with ⟨_, _, h3⟩ | ⟨h1, L2, h2, h3, h4, h5, h6⟩
              · rw [hno] at h3; cases h3
              · rw [hno] at h6; cases h6; exact ⟨h1, h2, h3, h4, h5⟩⟩)
            replace hnc2 := Lib.hid hnc2
            replace hno := Lib.hid hno
            clear hnc
            gi_wp2_with (refine ⟨trivial, fun h => (by cases h), ?_⟩; gi_at_call 46; refine (callsIn_wide.2 hnc2.out).mono ?_; rintro e w4 ⟨hit, rfl, hP4, hL4, hm4, hr4⟩)
            obtain ⟨hb4, hJ4, hWs4⟩ := hst3.out w4 hit
            have hwr := Lib.hid (show wrap64 ((pre.length : Int) + 1) = ((pre.length + 1 : Nat) : Int) by have := hlim.out; unfold wrap64; omega)
            have hlen1 : (pre ++ [(v', L)]).length = pre.length + 1 := by rw [List.length_append, List.length_singleton]
            have hLL2 : L'.length = L0.length := hL4
            have hr2 : rem m L0 = rem m L' + (pre ++ [(v', L)]).length := by rw [hlen1]; have := hrm.out; omega
            have hn2 : NextIs L0 (pre ++ [(v', L)]) L' := by unfold NextIs; simpa using hno.out
            replace hP4 := Lib.hid hP4
            replace hm4 := Lib.hid hm4
            replace hJ4 := Lib.hid hJ4
            clear hr4 hst3 hnc2
            gi_wp2
            refine ⟨⟨pre ++ [(v', L)], L', by rw [hwr.out, hlen1], hLL2, hm4.out, hn2, hr2, by rw [hlen1]; omega, hP4.out, hb4, hWs4, hJ4.out⟩, ?_⟩
            rw [hwr.out]; simp [intOf]; omega
        · gi_wp2
          refine ⟨trivial, ?_⟩
          gi_wp2
          refine bodyPost_ret (results_none rfl _ _ _) rfl ?_
          rw [← hpost.out]
          exact ⟨⟨_, rfl⟩, .inr ⟨c, pre ++ [(v', L)], hcW, trivial, hJx3⟩⟩
      · have hltI : decide ((pre.length : Int) < lim) = false := decide_eq_false (by omega)
        gi_wp2
        go_end0
        rw [← hpost.out]
        refine ⟨⟨_, rfl⟩, .inl ⟨c, pre, hcW, ⟨by omega, .inl (by omega)⟩, hJp⟩⟩
end Go.Proofs.Ytdminbjenbbpaaa
