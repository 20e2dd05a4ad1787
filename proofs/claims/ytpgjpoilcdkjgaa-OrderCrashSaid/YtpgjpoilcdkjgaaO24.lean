/- The law's mandatory; the walk of OrderMandatory. -/
import Derived.Test.YtpgjpoilcdkjgaaO22
import Derived.Test.YtpgjpoilcdkjgaaO23
import Derived.Test.YtpgjpoilcdkjgaaQ2
namespace Go.Proofs.Ytpgjpoilcdkjgaa
open Go.RowKit

set_option maxHeartbeats 4000000 in
set_option maxRecDepth 100000 in
theorem mandlaw_any (sa : Option Addr) (cap : Nat) (l : List RSt) (w : World) (h : Rd w (.slice sa l.length cap) l.length (sCells l)) (hl : l.length ≤ 20000) :
    Calls Try.prog 17 #[.slice sa l.length cap] w (NewNats w (mandK l l.length)) := by
  generalize hpost : NewNats w (mandK l l.length) = post
  replace hpost := Lib.hid hpost
  have hcal := fun k => mandK_le l k
  go_enter Try.func17, Try.ntmps17
  go_wp2_with fail
  go_loopw [3, 8] (fun v i wr => ∃ (k : Nat) (oa : Option Addr) (oc : Nat), k ≤ l.length ∧ i = .int .i64 k ∧ v = .slice oa (mandK l k).length oc ∧ wr.ownsRow 0 3 1 (.slice oa (mandK l k).length oc) (mandK l k).length (nats (mandK l k)) ∧
      Below w.heap.size w wr ∧ (∀ j, Value.ownBlock (.slice oa (mandK l k).length oc) = some j → w.heap.size ≤ j)) (fun _ i _ => l.length - (intOf i).toNat)
  case atStart => exact ⟨0, none, 0, Nat.zero_le _, rfl, rfl, World.ownsRow_nil _ _ _ _, Below.refl _ _, by intro j hj; cases hj⟩
  case round =>
    obtain ⟨k, oa, oc, hk, rfl, rfl, hown, hB, hob⟩ := hrel
    by_cases hlt : k < l.length
    · have hlI : (k : Int) < l.length := by omega
      obtain ⟨b, off, c, e1, f⟩ := (h.kept hB).cells (by omega)
      simp only [Value.slice.injEq, true_and] at e1
      obtain ⟨rfl, hc⟩ := e1
      replace hc := Lib.hid hc
      have hat := get_of_lt RSt.zero hlt
      have hsucc := mandK_succ l k
      have hlk := hcal k
      generalize l.getD k RSt.zero = s at *
      have c0 : wr.cell? ⟨b, off + k * 4, none⟩ = _ := f _ _ (sCells_get _ k _ hat 0 _ rfl)
      have c1 : wr.cell? ⟨b, off + k * 4 + 1, none⟩ = _ := f _ _ (sCells_get _ k _ hat 1 _ rfl)
      have c2 : wr.cell? ⟨b, off + k * 4 + 2, none⟩ = _ := f _ _ (sCells_get _ k _ hat 2 _ rfl)
      have c3 : wr.cell? ⟨b, off + k * 4 + 3, none⟩ = _ := f _ _ (sCells_get _ k _ hat 3 _ rfl)
      have hA : Below wr.heap.size wr (wr.alloc (.cells #[.int .i64 (s.line : Int), .int .u64 (s.off : Int), .int .u64 (s.val : Int), .bool s.mand] 57)) := (Below.refl _ _).alloc (Nat.le_refl _) _
      have hBn := hB.trans (hA.mono hB.size)
      have hownA := hown.alloc (.cells #[.int .i64 (s.line : Int), .int .u64 (s.off : Int), .int .u64 (s.val : Int), .bool s.mand] 57)
      have hBs := hB.size
      replace hat := Lib.hid hat
      clear f hA
      cases hm : s.mand with
      | false =>
        rw [hm] at hsucc c3 hBn hownA
        simp only [Bool.false_eq_true, if_false, List.append_nil] at hsucc
        replace hsucc := Lib.hid hsucc
        clear hm
        go_wp2_with fail
        go_roundw
        case rel => exact ⟨k + 1, oa, oc, by omega, by go_num, by rw [hsucc.out], by rw [hsucc.out]; exact hownA, hBn, by rw [hsucc.out]; exact hob⟩
        case measure => simp [intOf]; omega
      | true =>
        rw [hm] at hsucc c3 hBn hownA
        simp only [if_true] at hsucc
        replace hsucc := Lib.hid hsucc
        clear hm
        generalize mandK l k = xs at *
        have hN : Has ((wr.alloc (.cells #[.int .i64 (s.line : Int), .int .u64 (s.off : Int), .int .u64 (s.val : Int), .bool true] 57)).alloc (.cells #[.int .i64 (k : Int)] 3)) (wr.heap.size + 1) [.int .i64 (k : Int)] 3 := by
          have := Has.new (wr.alloc (.cells #[.int .i64 (s.line : Int), .int .u64 (s.off : Int), .int .u64 (s.val : Int), .bool true] 57)) [.int .i64 (k : Int)] 3
          have e : (wr.alloc (.cells #[.int .i64 (s.line : Int), .int .u64 (s.off : Int), .int .u64 (s.val : Int), .bool true] 57)).heap.size = wr.heap.size + 1 := by simp
          rw [e] at this
          exact this
        have hby : (xs.length + 1) * 8 ≤ 140737488355328 := by omega
        have hB2 := hBn.alloc hBn.size (.cells #[.int .i64 (k : Int)] 3)
        have ho2 := hownA.alloc (.cells #[.int .i64 (k : Int)] 3)
        go_wp2_with (at_builtin; refine wpList_app rfl (.tmp 15) (.tmp 17) 33 rfl 3 (.int .i64 0) 1 8 Try.underlying33 info3 rfl (by decide) (by decide) oa xs.length oc (nats xs) (by exact ho2) rfl _ 1 1 [.int .i64 (k : Int)] rfl rfl (by exact news_at hN) (by simp [Value.oneCell']) (by exact hby) ?_)
        intro oa' oc' w4 own4 only4 fresh4
        have hB4 := hB2.trans (only4.below (B := w.heap.size) (by have := hB2.size; simp at this ⊢; omega) (fun j _ hj => hob j hj))
        have hob4 : ∀ j, Value.ownBlock (.slice oa' (xs.length + 1) oc') = some j → w.heap.size ≤ j := by
          intro j hj
          rcases fresh4 j hj with h1 | h1
          · exact hob j h1
          · have h1 : wr.heap.size + 1 + 1 ≤ j := by simpa using h1
            omega
        have hle : (mandK l (k + 1)).length = xs.length + 1 := by rw [hsucc.out]; simp
        replace hle := Lib.hid hle
        replace hB4 := Lib.hid hB4
        replace hob4 := Lib.hid hob4
        replace own4 := Lib.hid own4
        clear only4 fresh4 hB2 ho2 hN hownA hBn
        go_wp2_with fail
        go_roundw
        case rel => exact ⟨k + 1, oa', oc', by omega, by go_num, by rw [hle.out], by rw [hle.out, hsucc.out]; simpa [nats] using own4.out, hB4.out, by rw [hle.out]; exact hob4.out⟩
        case measure => simp [intOf]; omega
    · obtain rfl : k = l.length := by omega
      have hend : NewNats w (mandK l l.length) (.returned (.slice oa (mandK l l.length).length oc)) wr := ⟨oa, oc, rfl, hown, hB, hob⟩
      rw [hpost.out] at hend
      replace hend := Lib.hid hend
      go_wp2_with fail
      first | exact hend.out | (go_ret; exact hend.out)

theorem mandlaw_at (sa : Option Addr) (cap : Nat) (l : List RSt) (N : Nat) (hN : l.length = N) (w : World) (h : Rd w (.slice sa N cap) N (sCells l)) (hl : N ≤ 20000) : Calls Try.prog 17 #[.slice sa N cap] w (NewNats w (mandK l N)) := by
  subst hN; exact mandlaw_any sa cap l w h hl
theorem natsI_len (l : List Nat) : (natsI l).length = l.length := by simp [natsI]
theorem nats_natsI (l : List Nat) : nats l = (natsI l).map (.int .i64) := nats_ints l
theorem equal_nats (va vb : Value) (xs ys : List Nat) (w : World) (ha : Rd w va xs.length (nats xs)) (hb : Rd w vb ys.length (nats ys)) (hx : xs.length ≤ 9223372036854775807) (hy : ys.length ≤ 9223372036854775807) :
    Calls Try.prog 15 #[va, vb] w fun e w' => e = .returned (.bool (decide (xs = ys))) ∧ ∃ m, w.drewN m = w' := by
  rw [nats_natsI] at ha hb
  have h1 := natsI_len xs
  have h2 := natsI_len ys
  refine (equal_any va vb (natsI xs) (natsI ys) w (by rw [h1]; exact ha) (by rw [h2]; exact hb) (by omega) (by omega)).mono ?_
  rintro e w' ⟨rfl, hw⟩
  refine ⟨?_, hw⟩
  have : decide (natsI xs = natsI ys) = decide (xs = ys) := by
    apply decide_eq_decide.2
    constructor
    · intro h
      unfold natsI at h
      exact (List.map_inj_right (fun a b e => by omega)).1 h
    · intro h; rw [h]
  rw [this]
theorem closed_nats (g : Nat) (G : Gr) (va : Value) (set : List Nat) (w : World) (h : GraphSt w g G) (hs : Rd w va set.length (nats set)) (hsl : set.length ≤ 9223372036854775807) :
    Calls Try.prog 18 #[.pointer (some ⟨g, 0, none⟩), va] w (BoolPost w (closedP G (natsI set))) := by
  rw [nats_natsI] at hs
  have h1 := natsI_len set
  exact closed_any g G va (natsI set) w h (by rw [h1]; exact hs) (by omega)
/-- What the first four lines of a law give: the events, the stores of the reference, the graph. -/
structure Start (es : List Ev) (G : Gr) : Prop where
  ok : G.Ok
  cg : G.Count
  n : G.n = 4
  out : (refRunP 4 es).out = stf G
theorem start (es : List Ev) (hl : es.length ≤ 20000) (hg : ∀ e ∈ es, e.Good) {w : World} {g : Nat} (h : GraphSt w g (runP 4 es).G) : Start es (runP 4 es).G := by
  obtain ⟨_, ag⟩ := agree_run 4 (by omega) (by omega) es hl (fun e he => (hg e he).fit)
  exact ⟨h.ok, ag.cg, runP_n 4 es, ag.out⟩
theorem evs_good (acs : List Ac) (hf : ∀ a ∈ acs, a.Fit) (m : Nat) : ∀ e ∈ evs (acs.take m), e.Good := by
  intro e he
  simp only [evs, List.mem_map] at he
  obtain ⟨a, ha, rfl⟩ := he
  exact a.ev_good (hf a (List.mem_of_mem_take ha))
theorem evs_len (acs : List Ac) (m : Nat) : (evs (acs.take m)).length ≤ m := by simp [evs]; omega

set_option maxHeartbeats 4000000 in
set_option maxRecDepth 100000 in
theorem mandatory_walk (acs : List Ac) (hf : ∀ a ∈ acs, a.Fit) (aa : Option Addr) (cap : Nat) (w : World) (hr : Rd w (.slice aa acs.length cap) acs.length (acCells acs)) (hll : acs.length ≤ 9223372036854775807) :
    Calls Try.prog 3 #[.slice aa acs.length cap] w (BoolPost w true) := by
  go_enter Try.func3, Try.ntmps3
  go_wp2_with fail
  refine (awake_any w).mono ?_
  rintro e w1 ⟨rfl, hB1⟩
  have hev := events_any acs hf aa cap 40 (by omega) w1 (hr.kept hB1) hll
  have hel := evs_len acs 40
  have heg := evs_good acs hf 40
  generalize evs (acs.take 40) = es at *
  replace hev := Lib.hid hev
  go_wp2_with fail
  refine hev.out.mono ?_
  rintro e w2 ⟨oa, oc, sa, sc, rfl, hRo, hRs, hB2⟩
  have hBa := hB1.trans (hB2.mono hB1.size)
  have hnew := new_ok 4 es oa oc w2 (by omega) (by omega) (by omega) hRo heg
  replace hnew := Lib.hid hnew
  clear hev hB1 hB2 hr
  go_wp2_with fail
  refine hnew.out.mono ?_
  rintro e w3 ⟨g, rfl, hG, hB3⟩
  have st := start es (by omega) heg hG
  have hRs := hRs.kept hB3
  have hBb := hBa.trans (hB3.mono hBa.size)
  rw [st.out] at hRs
  have hout := st.out
  generalize (runP 4 es).G = G at *
  rw [hout]
  replace hout := Lib.hid hout
  have hsl := stf_length G
  rw [hsl] at hRs ⊢
  have hwl := st.ok.wl
  have hm := fun w h => mandatory_any g G w h
  have hm1 := hm w3 hG
  have hcl := cut_closed st.ok st.cg G.md (fun _ _ => Nat.le_refl _) (fun l _ => st.ok.mc l)
  have hcle := cutK_le G G.md G.ws.length
  have hcde : cutL G G.md = cutK G G.md G.ws.length := rfl
  rw [← hcde] at hcle
  have hms := mand_stf G
  generalize cutL G G.md = cs at *
  replace hcl := Lib.hid hcl
  replace hms := Lib.hid hms
  replace hcde := Lib.hid hcde
  replace hsl := Lib.hid hsl
  replace hm1 := Lib.hid hm1
  replace hm := Lib.hid hm
  clear hnew hB3 hBa hRo
  go_wp2_with fail
  refine hm1.out.mono ?_
  rintro e w4 ⟨ma, mc, rfl, hown, hB4, _⟩
  have hG4 := hG.kept hB4
  have hBc := hBb.trans (hB4.mono hBb.size)
  have hml := mandlaw_at sa sc (stf G) G.ws.length hsl.out w4 (hRs.kept hB4) hwl
  rw [hms.out] at hml
  replace hml := Lib.hid hml
  have hR4 := Rd.of_own hown
  clear hG hRs hB4 hBb hown hm1
  go_wp2_with fail
  refine hml.out.mono ?_
  rintro e w5 ⟨na, nc, rfl, hown5, hB5, _⟩
  have hG5 := hG4.kept hB5
  have hBd := hBc.trans (hB5.mono hBc.size)
  have hq := equal_nats (.slice ma cs.length mc) (.slice na cs.length nc) cs cs w5 (hR4.kept hB5) (Rd.of_own hown5) (by omega) (by omega)
  rw [decide_eq_true rfl] at hq
  replace hq := Lib.hid hq
  clear hml hG4 hB5 hBc hR4 hown5
  go_wp2_with fail
  refine hq.out.mono ?_
  rintro e w6 ⟨rfl, m6, hw6⟩
  have hG6 : GraphSt w6 g G := hw6 ▸ hG5.drewN m6
  have hBe : Below w.heap.size w w6 := hw6 ▸ below_drewN hBd m6
  have hm6 := hm.out w6 hG6
  replace hm6 := Lib.hid hm6
  replace hw6 := Lib.hid hw6
  clear hq hG5 hBd
  go_wp2_with fail
  refine hm6.out.mono ?_
  rintro e w7 ⟨pa, pc, rfl, hown7, hB7, _⟩
  have hG7 := hG6.kept hB7
  have hBf := hBe.trans (hB7.mono hBe.size)
  have hcc := closed_nats g G (.slice pa cs.length pc) cs w7 hG7 (Rd.of_own hown7) (by omega)
  rw [hcl.out] at hcc
  replace hcc := Lib.hid hcc
  clear hm6 hG6 hBe hB7 hown7 hG7
  go_wp2_with fail
  refine hcc.out.mono ?_
  rintro e w8 ⟨rfl, hB8⟩
  have hBg := hBf.trans (hB8.mono hBf.size)
  go_wp2_with fail
  go_ret
  exact ⟨rfl, hBg⟩
end Go.Proofs.Ytpgjpoilcdkjgaa
