/- The walk of OrderClosed. -/
import Derived.Test.YtpgjpoilcdkjgaaO35
namespace Go.Proofs.Ytpgjpoilcdkjgaa
open Go.RowKit

theorem refclosed_at (G : Gr) (ok : G.Ok) (hcg : G.Count) (N : Nat) (hN : G.ws.length = N) (sa : Option Addr) (sc : Nat) (a : Option Addr) (ca m : Nat) (set : List Int) (hm : set.length = m) (w : World) (h : Rd w (.slice sa N sc) N (sCells (stf G)))
    (hs : Rd w (.slice a m ca) m (set.map (.int .i64))) (hsl : m ≤ 9223372036854775807) (hcap : m ≤ ca) (hcm : ca ≤ 9223372036854775807) :
    Calls Try.prog 26 #[.slice sa N sc, .slice a m ca] w (BoolPost w (closedP G set)) := by
  subst hm hN; exact refclosed_any G ok hcg sa sc a ca set w h hs hsl hcap hcm
theorem own_addr {w : World} {e : TypeId} {size n cap : Nat} {a : Option Addr} {xs : List Value} (h : w.ownsRow 0 e size (.slice a n cap) n xs) (h0 : 0 < n) : ∃ g, a = some ⟨g, 0, none⟩ := by
  obtain ⟨_, h2 | ⟨g', cap', cur, hv, _⟩⟩ := h
  · exfalso; simp only [Value.slice.injEq] at h2; omega
  · simp only [Value.slice.injEq] at hv; exact ⟨g', hv.1⟩
theorem own_cap {w : World} {e : TypeId} {size n cap : Nat} {a : Option Addr} {xs : List Value} (h : w.ownsRow 0 e size (.slice a n cap) n xs) : n ≤ cap := by
  rcases h.2 with ⟨h1, h2⟩ | ⟨g, cap2, cur, h1, _, _, h2, _⟩
  · omega
  · simp only [Value.slice.injEq] at h1
    obtain ⟨_, _, rfl⟩ := h1
    exact h2
theorem own_capm {w : World} {e : TypeId} {size n cap : Nat} {a : Option Addr} {xs : List Value} (h : w.ownsRow 0 e size (.slice a n cap) n xs) : cap ≤ 9223372036854775807 := by
  rcases h.2 with ⟨h1, h2⟩ | ⟨g, cap2, cur, h1, _, _, _, h2, _⟩
  · simp only [Value.slice.injEq] at h1; omega
  · simp only [Value.slice.injEq] at h1
    obtain ⟨_, _, rfl⟩ := h1
    unfold maxLen at h2; omega
theorem less_nats (r : List Nat) (k : Nat) : nats (r.take k) ++ nats (r.drop (k + 1)) = (natsI (r.take k ++ r.drop (k + 1))).map (.int .i64) := by rw [← nats_natsI]; unfold nats; rw [List.map_append]
theorem less_len (r : List Nat) (k : Nat) (hk : k < r.length) : (natsI (r.take k ++ r.drop (k + 1))).length = k + (r.length - (k + 1)) := by rw [natsI_len, List.length_append, List.length_take, List.length_drop]; omega
theorem nats_one (l : List Nat) : ∀ u ∈ nats l, u.oneCell' = true := by
  intro u hu; unfold nats at hu; rw [List.mem_map] at hu; obtain ⟨_, _, rfl⟩ := hu; rfl
theorem closed_at (g : Nat) (G : Gr) (va : Value) (m : Nat) (set : List Int) (hm : set.length = m) (w : World) (h : GraphSt w g G) (hs : Rd w va m (set.map (.int .i64))) (hsl : m ≤ 9223372036854775807) :
    Calls Try.prog 18 #[.pointer (some ⟨g, 0, none⟩), va] w (BoolPost w (closedP G set)) := by
  subst hm; exact closed_any g G va set w h hs hsl

theorem refcount_form (sa : Option Addr) (cap : Nat) (l : List RSt) (N : Nat) (hN : l.length = N) (v : Value) (hv : cntV (rcnt l) = v) (w : World) (h : Rd w (.slice sa N cap) N (sCells l)) (hl : N ≤ 20000) :
    Calls Try.prog 21 #[.slice sa N cap] w fun e w' => e = .returned v ∧ Below w.heap.size w w' := by
  have := refcount_any sa cap l N hN w h hl
  unfold CountPost at this
  rw [hv] at this
  exact this

set_option maxHeartbeats 4000000 in
set_option maxRecDepth 100000 in
theorem closed_walk (acs : List Ac) (hf : ∀ a ∈ acs, a.Fit) (aa : Option Addr) (cap : Nat) (w : World) (hr : Rd w (.slice aa acs.length cap) acs.length (acCells acs)) (hll : acs.length ≤ 9223372036854775807)
    (ta : Option Addr) (tl tc : Nat) (zs : List Int) (wz : IsRow .i64 w ta tl tc zs) (n1 : Int) (wf1 : (Lit.int .u16 n1).wf = true) :
    Calls Try.prog 6 #[.slice aa acs.length cap, .slice ta tl tc, .int .u16 n1] w (BoolPost w true) := by
  obtain ⟨hn0, hn1⟩ := u16_lt wf1
  clear wf1
  obtain ⟨nv, rfl⟩ := Int.eq_ofNat_of_zero_le hn0
  obtain ⟨ys, hyl, hz1, hry, hz2, hyb⟩ := wz.rd
  have htc : tl ≤ tc ∧ tc ≤ 9223372036854775807 := by
    rcases wz with ⟨_, rfl, rfl, _⟩ | ⟨_, _, h1, h2, _⟩
    · omega
    · unfold maxLen at h2; omega
  obtain ⟨htc1, htc2⟩ := htc
  clear wz hz1 hz2
  go_enter Try.func6, Try.ntmps6
  go_wp2_with fail
  refine (awake_any w).mono ?_
  rintro e w1 ⟨rfl, hB1⟩
  have hev := events_any acs hf aa cap 24 (by omega) w1 (hr.kept hB1) hll
  have hel := evs_len acs 24
  have heg := evs_good acs hf 24
  generalize evs (acs.take 24) = es at *
  replace hev := Lib.hid hev
  have hry1 := hry.kept hB1
  clear hry
  go_wp2_with fail
  refine hev.out.mono ?_
  rintro e w2 ⟨oa, oc, sa, sc, rfl, hRo, hRs, hB2⟩
  have hBa := hB1.trans (hB2.mono hB1.size)
  have hry2 := hry1.kept hB2
  have hnew := new_ok 4 es oa oc w2 (by omega) (by omega) (by omega) hRo heg
  replace hnew := Lib.hid hnew
  clear hev hB1 hB2 hr hry1
  go_wp2_with fail
  refine hnew.out.mono ?_
  rintro e w3 ⟨g, rfl, hG, hB3⟩
  have st := start es (by omega) heg hG
  have hRs := hRs.kept hB3
  have hry3 := hry2.kept hB3
  have hBb := hBa.trans (hB3.mono hBa.size)
  rw [st.out] at hRs
  have hout := st.out
  generalize (runP 4 es).G = G at *
  rw [hout]
  replace hout := Lib.hid hout
  have hsl := stf_length G
  rw [hsl] at hRs ⊢
  have hwl := st.ok.wl
  have hn4 := st.n
  have hsl2 : G.ws.length = (stf G).length := hsl.symm
  obtain ⟨cv, fl, hcv, hc1, hc2⟩ := cnt_form (stf G)
  have hcnt := fun w h => refcount_form sa sc (stf G) G.ws.length hsl _ hcv w h hwl
  have hcl := rcut_closed st.ok st.cg (nv % cv)
  have hcut := fun w h => refcut_any sa sc (stf G) G.ws.length (nv % cv) hsl (by have := Nat.mod_lt nv (show 0 < cv by omega); omega) (stf_line st.ok) w h hwl
  have hcle : (rcut (stf G) (nv % cv)).length ≤ G.ws.length := by rw [← hsl]; exact (pickK_len _ _ _).1
  generalize rcut (stf G) (nv % cv) = cs at *
  rw [show ((nv % cv : Nat) : Int) = (nv : Int) % (cv : Int) by simp] at hcut
  have hm0 : 0 ≤ (nv : Int) % (cv : Int) := Int.emod_nonneg _ (by omega)
  have hm1 : (nv : Int) % (cv : Int) < 65536 := by
    have : nv % cv ≤ nv := Nat.mod_le _ _
    have : ((nv % cv : Nat) : Int) < 65536 := by omega
    simpa using this
  have hd0 : ((cv : Int) == 0) = false := by rw [beq_eq_false_iff_ne]; omega
  have hd1 : ¬ (cv : Int) = 0 := by omega
  have hcvI : (cv : Int) ≤ 4611686018427387904 := by omega
  replace hcv := Lib.hid hcv
  replace hcnt := Lib.hid hcnt
  replace hcut := Lib.hid hcut
  replace hsl := Lib.hid hsl
  replace hsl2 := Lib.hid hsl2
  replace hn4 := Lib.hid hn4
  replace hyl := Lib.hid hyl
  have htl0 : (0 : Int) ≤ (tl : Int) := by omega
  have htcI : (tl : Int) ≤ (tc : Int) := by omega
  have hrev := closed_reverse st.ok hcl
  have hdup := fun i (hi : i ∈ (natsI cs).reverse) => closed_dup st.ok (natsI cs).reverse i hi
  replace hcl := Lib.hid hcl
  replace hrev := Lib.hid hrev
  replace hdup := Lib.hid hdup
  clear hnew hB3 hBa hRo hry2
  go_upto_region 6 with fail
  obtain ⟨m, hm⟩ : ∃ m : Nat, (min (tl : Int) 30).toNat = m := ⟨_, rfl⟩
  rw [hm]
  have hm1 : m ≤ tl := by omega
  have hm2 : m ≤ 30 := by omega
  have hRt := hry3.take m hm1 (by simpa using hyl.out)
  rw [← List.map_take] at hRt
  have hset : (ys.take m).length = m := by rw [List.length_take, hyl.out]; omega
  clear hry3 hm
  generalize ys.take m = set at *
  subst hset
  have hcg := Lib.hid (closed_at g G (.slice ta set.length tc) set.length set rfl w3 hG hRt (by omega))
  have hrc := Lib.hid (fun w h k => refclosed_any G st.ok st.cg sa sc ta tc set w h k (by omega) (by omega) htc2)
  have hsI : (set.length : Int) ≤ tc := by omega
  have hs30 : (set.length : Int) ≤ 30 := by omega
  generalize closedP G set = res at *
  go_wp2_with fail
  refine hcg.out.mono ?_
  rintro e w4 ⟨rfl, hB4⟩
  have hG4 := hG.kept hB4
  have hRs4 := hRs.kept hB4
  have hRt4 := hRt.kept hB4
  have hBc := hBb.trans (hB4.mono hBb.size)
  have hr4 := Lib.hid (hrc.out w4 hRs4 hRt4)
  clear hcg hrc hG hRs hRt hB4 hBb hRt4
  go_wp2_with fail
  refine hr4.out.mono ?_
  rintro e w5 ⟨rfl, hB5⟩
  have hG5 := hG4.kept hB5
  have hRs5 := hRs4.kept hB5
  have hBd := hBc.trans (hB5.mono hBc.size)
  have hbne : (res != res) = false := by cases res <;> rfl
  have hc5 := Lib.hid (hcnt.out w5 hRs5)
  clear hr4 hG4 hRs4 hB5 hBc hcnt
  go_wp2_with fail
  refine hc5.out.mono ?_
  rintro e w6 ⟨rfl, hB6⟩
  have hG6 := hG5.kept hB6
  have hRs6 := hRs5.kept hB6
  have hBe := hBd.trans (hB6.mono hBd.size)
  have hc6 := Lib.hid (hcut.out w6 hRs6)
  clear hc5 hG5 hRs5 hB6 hBd hcut
  go_wp2_with fail
  refine hc6.out.mono ?_
  rintro e w7 ⟨na, nc, rfl, hown, hB7, hob⟩
  have hcn : cs.length ≤ 20000 := by omega
  have hrv := Lib.hid (reverse_own na nc cs w7 hown (by omega))
  clear hc6 hown
  go_wp2_with fail
  refine hrv.out.mono ?_
  rintro e w8 ⟨rfl, hown8, hO8⟩
  have hB8 : Below w6.heap.size w6 w8 := hB7.trans (hO8.below (B := w6.heap.size) hB7.size (fun j _ hj => hob j hj))
  have hG8 := hG6.kept hB8
  have hRs8 := hRs6.kept hB8
  have hBg := hBe.trans (hB8.mono hBe.size)
  have hob8 : ∀ j, Value.ownBlock (.slice na cs.length nc) = some j → w.heap.size ≤ j := fun j hj => Nat.le_trans hBe.size (hob j hj)
  have hlow : w6.heap.size ≤ w8.heap.size := hB8.size
  have hrl : cs.reverse.length = cs.length := List.length_reverse
  have hnr : natsI cs.reverse = (natsI cs).reverse := by simp [natsI]
  rw [← hnr] at hrev hdup
  generalize cs.reverse = r at *
  rw [← hrl] at hown8 hob8 hob ⊢
  have hcr := Lib.hid (closed_nats g G (.slice na r.length nc) r w8 hG8 (Rd.of_own hown8) (by omega))
  rw [hrev.out] at hcr
  replace hnr := Lib.hid hnr
  replace hrl := Lib.hid hrl
  have hrn : r.length ≤ 20000 := by have := hrl.out; omega
  clear hrv hO8 hB7 hG8 hRs8
  by_cases h0 : 0 < r.length
  · have hd : decide ((0 : Int) < (r.length : Int)) = true := decide_eq_true (by omega)
    obtain ⟨gb, rfl⟩ := own_addr hown8 h0
    have hgb6 : w6.heap.size ≤ gb := hob _ rfl
    have hrc8 := own_cap hown8
    have hx : ((r.getD 0 0 : Nat) : Int) ∈ natsI r := by
      unfold natsI; exact List.mem_map.2 ⟨_, mem_getD 0 h0, rfl⟩
    have hdx := hdup.out _ hx
    have c0 : w8.cell? ⟨gb, 0, none⟩ = _ := ownsRow_get hown8 (nats_get r 0 _ (get_of_lt 0 h0))
    have hgl : gb < w8.heap.size := ownsRow_lt hown8 rfl
    generalize r.getD 0 0 = x at *
    have hnx : nats r ++ [Value.int .i64 (x : Int)] = (natsI r ++ [(x : Int)]).map (.int .i64) := by rw [nats_natsI]; simp
    have hnl : (natsI r ++ [(x : Int)]).length = r.length + 1 := by simp [natsI]
    have hca := fun va w h k => closed_at g G va (r.length + 1) (natsI r ++ [(x : Int)]) hnl w h k (by omega)
    rw [hdx] at hca
    replace hca := Lib.hid hca
    replace hdx := Lib.hid hdx
    replace hnx := Lib.hid hnx
    replace hnl := Lib.hid hnl
    have hr0 : (0 : Int) < (r.length : Int) := by omega
    go_upto_region 11 with fail
    go_wp2_with fail
    refine hcr.out.mono ?_
    rintro e w9 ⟨rfl, hB9⟩
    have c9 := bcell hB9 c0
    have own9 := ownsRow_only hown8 (Only.of_below hB9) (fun j hj e => by have := ownsRow_lt hown8 hj; omega)
    have own9a := own9.alloc (.cells #[.int .i64 (x : Int)] 3)
    have hN9 := (Has.new w9 [.int .i64 (x : Int)] 3).cell (o := 0) rfl
    have hB9a : Below w6.heap.size w6 (w9.alloc (.cells #[.int .i64 (x : Int)] 3)) := by
      have := hB8.trans (hB9.mono hlow)
      exact this.alloc this.size _
    have hby : (r.length + 1) * 8 ≤ 140737488355328 := by omega
    clear hcr
    go_wp2_with (at_builtin; refine wpList_appKept (by rfl) (.tmp 67) (.tmp 71) 33 (by rfl) 3 (.int .i64 0) 8 Try.underlying33 info3 rfl (by decide) (some ⟨gb, 0, none⟩) r.length nc (nats r) (by rfl) (.int .i64 (x : Int)) (by exact own9a) w9.heap.size (by rfl) (by exact hN9) (by rfl) (by exact hby) ?_)
    intro sb cb w10 own10 only10 fresh10 rd10
    have hB10 : Below w6.heap.size w6 w10 := hB9a.trans (only10.below (B := w6.heap.size) hB9a.size (fun j _ hj => by simp only [Value.ownBlock, Option.some.injEq] at hj; omega))
    have hG10 := hG6.kept hB10
    have hRs10 := hRs6.kept hB10
    have hBh := hBe.trans (hB10.mono hBe.size)
    have hc10 := Lib.hid (hca.out (.slice sb (r.length + 1) cb) w10 hG10 (by rw [← hnx.out]; exact Rd.of_own own10))
    clear own10 only10 fresh10 own9a own9 c9 hN9 hB9a hB9 hca hG6 hRs6 hBe hB8 hB10 hown8 c0 hlow
    go_wp2_with fail
    refine hc10.out.mono ?_
    rintro e w11 ⟨rfl, hB11⟩
    have hG11 := hG10.kept hB11
    have hRs11 := hRs10.kept hB11
    have rd11 := rd10.kept hB11
    have hBi := hBh.trans (hB11.mono hBh.size)
    clear hc10 hG10 hRs10 rd10 hBh hB11
    go_wp2_with fail
    go_loopw [78] (fun i wr => ∃ k : Nat, k ≤ r.length ∧ i = .int .i64 k ∧ GraphSt wr g G ∧ Rd wr (.slice sa G.ws.length sc) G.ws.length (sCells (stf G)) ∧ Rd wr (.slice (some ⟨gb, 0, none⟩) r.length nc) r.length (nats r) ∧ Below w.heap.size w wr) (fun i _ => r.length - (intOf i).toNat)
    case atStart => exact ⟨0, by omega, rfl, hG11, hRs11, rd11, hBi⟩
    case round =>
      clear hG11 hRs11 rd11 hBi
      obtain ⟨k, hk, rfl, hGk, hRk, hrk, hBk⟩ := hrel
      by_cases hlt : k < r.length
      · have hkI : (k : Int) < r.length := by omega
        have hncI : (r.length : Int) ≤ nc := by omega
        have hk0 : (0 : Int) ≤ (k : Int) := by omega
        have hkc : (k : Int) ≤ nc := by omega
        have hkc1 : (k : Int) + 1 ≤ nc := by omega
        have hkl : ¬ (r.length : Int) < (k : Int) + 1 := by omega
        have hk1 : (k : Int) + 1 ≤ r.length := by omega
        have hE := ownsRow_drew (World.ownsRow_lit wr #[] 0 (base := 0) (e := 3) (size := 1) (Nat.zero_le _) (by decide) rfl)
        have hA : Below wr.heap.size wr (wr.alloc (.cells #[] 3)).drew := below_drewN ((Below.refl _ _).alloc (Nat.le_refl _) _) 1
        have hR1 : Rd (wr.alloc (.cells #[] 3)).drew (.slice (some ⟨gb, 0, none⟩) k nc) k (nats (r.take k)) := by
          have := (hrk.take k (by omega) (by simp [nats])).kept hA
          unfold nats at *
          rw [← List.map_take] at this
          exact this
        have hkl2 : (nats (r.take k)).length = k := by simp [nats]; omega
        have hby1 : (0 + k) * 8 ≤ 140737488355328 := by omega
        have hwr : IntKind.i64.wrap ((k : Int) + 1) = (k : Int) + 1 := by
          have h1 : ((k : Int) + 1) % (2 ^ IntKind.i64.bits : Int) = (k : Int) + 1 := Int.emod_eq_of_lt (by omega) (by show (k : Int) + 1 < 18446744073709551616; omega)
          have h2 : decide ((k : Int) + 1 ≥ (2 ^ (IntKind.i64.bits - 1) : Int)) = false := decide_eq_false (by show ¬ ((k : Int) + 1 ≥ 9223372036854775808); omega)
          unfold IntKind.wrap
          simp only [h1, h2, Bool.and_false, Bool.false_eq_true, if_false]
        have htn : ((k : Int) + 1).toNat = k + 1 := by omega
        have hk01 : (0 : Int) ≤ (k : Int) + 1 := by omega
        obtain ⟨xa, hxa⟩ : ∃ xa : Option Addr, (if nc = k + 1 then some (⟨gb, 0, none⟩ : Addr) else some ⟨gb, k + 1, none⟩) = xa := ⟨_, rfl⟩
        have hR2 : Rd wr (.slice xa (r.length - (k + 1)) (nc - (k + 1))) (r.length - (k + 1)) (nats (r.drop (k + 1))) := by
          refine ⟨_, _, rfl, ?_⟩
          by_cases hz : r.length - (k + 1) = 0
          · exact .inl ⟨hz, by rw [List.drop_of_length_le (by omega)]; rfl⟩
          · rw [if_neg (by omega)] at hxa
            obtain ⟨b, o, c, e1, f⟩ := hrk.cells (by omega)
            simp only [Value.slice.injEq, Option.some.injEq, Addr.mk.injEq, true_and, and_true] at e1
            obtain ⟨⟨rfl, rfl⟩, _⟩ := e1
            refine .inr ⟨_, _, hxa.symm, fun j u hj => ?_⟩
            have := f (k + 1 + j) u (by unfold nats at *; rw [List.map_drop, List.getElem?_drop] at hj; exact hj)
            rw [Nat.zero_add] at this
            exact this
        have hkeep : ∀ w1, Only (fun k => Value.ownBlock (.slice (some ⟨wr.heap.size, 0, none⟩) 0 0) = some k) (wr.alloc (.cells #[] 3)).drew w1 → Below wr.heap.size wr w1 := fun w1 ho =>
          hA.trans (ho.below (B := wr.heap.size) hA.size (fun j _ hj => by simp only [Value.ownBlock, Option.some.injEq] at hj; omega))
        have hdl : (nats (r.drop (k + 1))).length = r.length - (k + 1) := by simp [nats]
        have hby2 : (k + (r.length - (k + 1))) * 8 ≤ 140737488355328 := by omega
        replace hkeep := Lib.hid hkeep
        replace hR2 := Lib.hid hR2
        go_upto_region 16 with fail
        go_region_law ((first | (refine step_appAll (by rfl) _ _ _ (by rfl) 3 (.int .i64 0) 8 Try.underlying33 info3 (by rfl) (by decide) (some ⟨wr.heap.size, 0, none⟩) 0 0 (Nat.le_refl _) [] (by rfl) (by exact hE) (some ⟨gb, 0, none⟩) k nc (nats (r.take k)) (by rfl) (by exact hR1) hkl2 (nats_one _) hby1 ?_; intro sa1 cap1 w1 hcap1 own1 only1 fresh1; simp only [Nat.zero_add, List.nil_append] at hcap1 own1 fresh1) | (refine step_appAll (by rfl) _ _ _ (by rfl) 3 (.int .i64 0) 8 Try.underlying33 info3 (by rfl) (by decide) sa1 k cap1 hcap1 (nats (r.take k)) (by rfl) (by exact own1) xa (r.length - (k + 1)) (nc - (k + 1)) (nats (r.drop (k + 1))) (by rfl) (by exact hR2.out.kept (hkeep.out _ only1)) hdl (nats_one _) hby2 ?_; intro sa2 cap2 w2 hcap2 own2 only2 fresh2) | (trace_state; fail)))
        have hB1 := hkeep.out _ only1
        have hB2 : Below wr.heap.size wr w2 := hB1.trans (only2.below (B := wr.heap.size) hB1.size (fun j _ hj => by
          rcases fresh1 j hj with h1 | h1
          · simp only [Value.ownBlock, Option.some.injEq] at h1; omega
          · have h2 : wr.heap.size + 1 ≤ j := by simpa using h1
            omega))
        have hls := less_nats r k
        have hll := less_len r k hlt
        rw [hls] at own2
        have hcx := own_capm own2
        obtain ⟨m, hm⟩ : ∃ m : Nat, k + (r.length - (k + 1)) = m := ⟨_, rfl⟩
        rw [hm] at own2 hll hcap2 ⊢
        have hmb : m ≤ 20000 := by omega
        have hGw := hGk.kept hB2
        have hRw := hRk.kept hB2
        have hrw := hrk.kept hB2
        have hBw := hBk.trans (hB2.mono hBk.size)
        have hle2 := Rd.of_own own2
        generalize natsI (r.take k ++ r.drop (k + 1)) = less at *
        have hx1 := Lib.hid (closed_at g G (.slice sa2 m cap2) m less hll w2 hGw hle2 (by omega))
        have hx2 := Lib.hid (fun w h k => refclosed_at G st.ok st.cg G.ws.length rfl sa sc sa2 cap2 m less hll w h k (by omega) hcap2 hcx)
        generalize closedP G less = rs at *
        have hbn2 : (rs != rs) = false := by cases rs <;> rfl
        replace hm := Lib.hid hm
        replace hls := Lib.hid hls
        replace hll := Lib.hid hll
        replace hxa := Lib.hid hxa
        clear own1 own2 only1 only2 fresh1 fresh2 hB1 hR1 hR2 hE hA hkeep hGk hRk hrk hBk hwr htn hdl hkl2
        go_wp2_with fail
        refine hx1.out.mono ?_
        rintro e w3' ⟨rfl, hB3⟩
        have hG3 := hGw.kept hB3
        have hR3 := hRw.kept hB3
        have hr3 := hrw.kept hB3
        have hle3 := hle2.kept hB3
        have hBx := hBw.trans (hB3.mono hBw.size)
        have hy := Lib.hid (hx2.out w3' hR3 hle3)
        clear hx1 hx2 hGw hRw hrw hle2 hBw hB3
        go_wp2_with fail
        refine hy.out.mono ?_
        rintro e w4' ⟨rfl, hB4⟩
        have hG4 := hG3.kept hB4
        have hR4 := hR3.kept hB4
        have hr4 := hr3.kept hB4
        have hBy := hBx.trans (hB4.mono hBx.size)
        clear hy hG3 hR3 hr3 hle3 hBx hB4
        go_wp2_with fail
        go_roundw
        case rel => first | exact ⟨k + 1, by omega, by go_num, hG4, hR4, hr4, hBy⟩ | ((repeat apply Exists.intro); exact ⟨⟨k + 1, by omega, by go_num, hG4, hR4, hr4, hBy⟩, rfl⟩)
        case measure => simp [intOf]; omega
      · obtain rfl : k = r.length := by omega
        go_wp2_with fail
        have hp : BoolPost w true (.returned (.bool true)) wr := ⟨rfl, hBk⟩
        first | exact hp | (go_ret; exact hp)
  · have hz : r.length = 0 := by omega
    have hd : decide ((0 : Int) < (r.length : Int)) = false := decide_eq_false (by omega)
    have hd2 : ¬ (0 : Int) < (r.length : Int) := by omega
    replace hz := Lib.hid hz
    go_upto_region 11 with fail
    go_wp2_with fail
    refine hcr.out.mono ?_
    rintro e w9 ⟨rfl, hB9⟩
    have hBh := hBg.trans (hB9.mono hBg.size)
    clear hcr
    go_wp2_with fail
    go_loopw [78] (fun i wr => i = .int .i64 0 ∧ Below w.heap.size w wr) (fun _ _ => 0)
    case atStart => exact ⟨rfl, hBh⟩
    case round =>
      obtain ⟨rfl, hBk⟩ := hrel
      go_wp2_with fail
      have hp : BoolPost w true (.returned (.bool true)) wr := ⟨rfl, hBk⟩
      first | exact hp | (go_ret; exact hp)
end Go.Proofs.Ytpgjpoilcdkjgaa
