/- The walk of OrderImages. -/
import Derived.Test.YtpgjpoilcdkjgaaO32
import Derived.Test.YtpgjpoilcdkjgaaQ5
import Derived.Test.YtpgjpoilcdkjgaaO30
import Derived.Test.YtpgjpoilcdkjgaaO26
namespace Go.Proofs.Ytpgjpoilcdkjgaa
open Go.RowKit

theorem cnt_form (l : List RSt) : ∃ (cv : Nat) (fl : Bool), cntV (rcnt l) = .tuple #[.int .u64 (cv : Int), .bool fl] ∧ 1 ≤ cv ∧ cv ≤ 4611686018427387904 := by
  cases h : rcnt l with
  | none => exact ⟨4611686018427387904, false, rfl, by omega, by omega⟩
  | some t =>
    obtain ⟨h1, h2⟩ := rcK_bd _ _ _ _ h
    exact ⟨t, true, rfl, h1, h2⟩
theorem imgP_length (G : Gr) (hn4 : G.n = 4) (set : List Int) : (imgP G set).length = 256 := by
  unfold imgP; rw [imgK_length, hn4]
theorem image_cut (g : Nat) (G : Gr) (hn4 : G.n = 4) (va : Value) (cs : List Nat) (w : World) (h : GraphSt w g G) (hs : Rd w va cs.length (nats cs)) (hsl : cs.length ≤ 9223372036854775807) (hc : closedP G (natsI cs) = true) :
    Calls Try.prog 23 #[.pointer (some ⟨g, 0, none⟩), va] w fun e w' => ∃ b, e = .returned (.tuple #[.slice (some ⟨b, 0, none⟩) 256 256, .int .i64 0]) ∧ Has w' b (bytesV (imgP G (natsI cs))) 5 ∧ Below w.heap.size w w' ∧ w.heap.size ≤ b := by
  have h1 := natsI_len cs
  have := image_yes g G va (natsI cs) w h (by rw [h1, ← nats_natsI]; exact hs) (by omega) hc
  rw [hn4] at this
  exact this
theorem image_ok (g : Nat) (G : Gr) (hn4 : G.n = 4) (va : Value) (m : Nat) (set : List Int) (hm : set.length = m) (w : World) (h : GraphSt w g G) (hs : Rd w va m (set.map (.int .i64))) (hsl : m ≤ 9223372036854775807) (hc : closedP G set = true) :
    Calls Try.prog 23 #[.pointer (some ⟨g, 0, none⟩), va] w fun e w' => ∃ b, e = .returned (.tuple #[.slice (some ⟨b, 0, none⟩) 256 256, .int .i64 0]) ∧ Has w' b (bytesV (imgP G set)) 5 ∧ Below w.heap.size w w' ∧ w.heap.size ≤ b := by
  subst hm
  have := image_yes g G va set w h hs hsl hc
  rw [hn4] at this
  exact this
theorem refimage_cut (G : Gr) (ok : G.Ok) (hn4 : G.n = 4) (N : Nat) (hN : G.ws.length = N) (sa : Option Addr) (sc : Nat) (va : Value) (cs : List Nat) (w : World) (h : Rd w (.slice sa N sc) N (sCells (stf G)))
    (hs : Rd w va cs.length (nats cs)) (hsl : cs.length ≤ 9223372036854775807) :
    Calls Try.prog 25 #[.int .i64 4, .slice sa N sc, va] w (RImg w G (natsI cs)) := by
  subst hN
  have h1 := natsI_len cs
  refine refimage_any G ok hn4 sa sc va (natsI cs) w h (by rw [h1, ← nats_natsI]; exact hs) (by omega) ?_
  intro i hi
  unfold natsI at hi
  rw [List.mem_map] at hi
  obtain ⟨n, _, rfl⟩ := hi
  omega
theorem equal_img (b1 b2 : Nat) (X : List Nat) (hX : X.length = 256) (w : World) (h1 : Has w b1 (bytesV X) 5) (h2 : Has w b2 (bytesV X) 5) :
    Calls Try.prog 24 #[.slice (some ⟨b1, 0, none⟩) 256 256, .slice (some ⟨b2, 0, none⟩) 256 256] w (RBPost w true) := by
  have := equal_bytes (.slice (some ⟨b1, 0, none⟩) 256 256) (.slice (some ⟨b2, 0, none⟩) 256 256) X X w (by rw [hX]; exact Rd.of_has h1 256 256) (by rw [hX]; exact Rd.of_has h2 256 256) (by omega) (by omega)
  rw [decide_eq_true rfl] at this
  exact this
theorem u16_lt {n : Int} (h : (Lit.int .u16 n).wf = true) : 0 ≤ n ∧ n < 65536 := by
  simp only [Lit.wf, Bool.and_eq_true, decide_eq_true_eq] at h
  have e1 : IntKind.min .u16 = 0 := by decide
  have e2 : IntKind.max .u16 = 65535 := by decide
  rw [e1, e2] at h
  omega

set_option maxHeartbeats 4000000 in
set_option maxRecDepth 100000 in
theorem images_walk (acs : List Ac) (hf : ∀ a ∈ acs, a.Fit) (aa : Option Addr) (cap : Nat) (w : World) (hr : Rd w (.slice aa acs.length cap) acs.length (acCells acs)) (hll : acs.length ≤ 9223372036854775807)
    (n1 : Int) (wf1 : (Lit.int .u16 n1).wf = true) (ta : Option Addr) (tl tc : Nat) (zs : List Int) (wz : IsRow .i64 w ta tl tc zs) :
    Calls Try.prog 5 #[.slice aa acs.length cap, .int .u16 n1, .slice ta tl tc] w (BoolPost w true) := by
  obtain ⟨hn0, hn1⟩ := u16_lt wf1
  clear wf1
  obtain ⟨nv, rfl⟩ := Int.eq_ofNat_of_zero_le hn0
  obtain ⟨ys, hyl, hz1, hry, hz2, hyb⟩ := wz.rd
  have htc : tl ≤ tc ∧ tc ≤ 9223372036854775807 := by
    rcases wz with ⟨_, rfl, rfl, _⟩ | ⟨_, _, h1, h2, _⟩
    · omega
    · unfold maxLen at h2; omega
  obtain ⟨htc1, htc2⟩ := htc
  clear wz hz1 hz2
  go_enter Try.func5, Try.ntmps5
  go_wp2_with fail
  refine (awake_any w).mono ?_
  rintro e w1 ⟨rfl, hB1⟩
  have hev := events_any acs hf aa cap 30 (by omega) w1 (hr.kept hB1) hll
  have hel := evs_len acs 30
  have heg := evs_good acs hf 30
  generalize evs (acs.take 30) = es at *
  replace hev := Lib.hid hev
  have hry1 := hry.kept hB1
  clear hry
  go_wp2_with fail
  refine hev.out.mono ?_
  rintro e w2 ⟨oa, oc, sa, sc, rfl, hRo, hRs, hB2⟩
  have hBa := hB1.trans (hB2.mono hB1.size)
  have hry2 := hry1.kept hB2
  have hnew := new_ok 4 es oa oc w2 (by omega) (by omega) (by omega) hRo heg
  replace hnew := Lib.hid hnew
  clear hev hB1 hB2 hr hry1
  go_wp2_with fail
  refine hnew.out.mono ?_
  rintro e w3 ⟨g, rfl, hG, hB3⟩
  have st := start es (by omega) heg hG
  have hRs := hRs.kept hB3
  have hry3 := hry2.kept hB3
  have hBb := hBa.trans (hB3.mono hBa.size)
  rw [st.out] at hRs
  have hout := st.out
  generalize (runP 4 es).G = G at *
  rw [hout]
  replace hout := Lib.hid hout
  have hsl := stf_length G
  rw [hsl] at hRs ⊢
  have hwl := st.ok.wl
  have hn4 := st.n
  have hsl2 : G.ws.length = (stf G).length := hsl.symm
  obtain ⟨cv, fl, hcv, hc1, hc2⟩ := cnt_form (stf G)
  have hcnt := refcount_any sa sc (stf G) G.ws.length hsl w3 hRs hwl
  have hcl := rcut_closed st.ok st.cg (nv % cv)
  have hcut := fun w h => refcut_any sa sc (stf G) G.ws.length (nv % cv) hsl (by have := Nat.mod_lt nv (show 0 < cv by omega); omega) (stf_line st.ok) w h hwl
  have hcle : (rcut (stf G) (nv % cv)).length ≤ G.ws.length := by rw [← hsl]; exact (pickK_len _ _ _).1
  generalize rcut (stf G) (nv % cv) = cs at *
  rw [show ((nv % cv : Nat) : Int) = (nv : Int) % (cv : Int) by simp] at hcut
  unfold CountPost at hcnt
  rw [hcv] at hcnt
  have hm0 : 0 ≤ (nv : Int) % (cv : Int) := Int.emod_nonneg _ (by omega)
  have hm1 : (nv : Int) % (cv : Int) < 65536 := by
    have : nv % cv ≤ nv := Nat.mod_le _ _
    have : ((nv % cv : Nat) : Int) < 65536 := by omega
    simpa using this
  have hd0 : ((cv : Int) == 0) = false := by rw [beq_eq_false_iff_ne]; omega
  have hd1 : ¬ (cv : Int) = 0 := by omega
  have hcvI : (cv : Int) ≤ 4611686018427387904 := by omega
  replace hcv := Lib.hid hcv
  replace hcnt := Lib.hid hcnt
  replace hcut := Lib.hid hcut
  replace hcl := Lib.hid hcl
  replace hsl := Lib.hid hsl
  replace hsl2 := Lib.hid hsl2
  replace hn4 := Lib.hid hn4
  replace hyl := Lib.hid hyl
  clear hnew hB3 hBa hRo hry2
  go_wp2_with fail
  refine hcnt.out.mono ?_
  rintro e w4 ⟨rfl, hB4⟩
  have hG4 := hG.kept hB4
  have hRs4 := hRs.kept hB4
  have hry4 := hry3.kept hB4
  have hBc := hBb.trans (hB4.mono hBb.size)
  have hc4 := Lib.hid (hcut.out w4 hRs4)
  clear hcnt hcut hG hRs hry3 hB4 hBb
  go_wp2_with fail
  refine hc4.out.mono ?_
  rintro e w5 ⟨na, nc, rfl, hown, hB5, _⟩
  have hG5 := hG4.kept hB5
  have hRs5 := hRs4.kept hB5
  have hry5 := hry4.kept hB5
  have hBd := hBc.trans (hB5.mono hBc.size)
  have hRc5 := Rd.of_own hown
  have him := Lib.hid (image_cut g G hn4.out (.slice na cs.length nc) cs w5 hG5 hRc5 (by omega) hcl.out)
  clear hc4 hG4 hRs4 hry4 hB5 hBc hown
  go_wp2_with fail
  refine him.out.mono ?_
  rintro e w6 ⟨b1, rfl, hP6, hB6, hb6⟩
  have hG6 := hG5.kept hB6
  have hRs6 := hRs5.kept hB6
  have hry6 := hry5.kept hB6
  have hRc6 := hRc5.kept hB6
  have hBe := hBd.trans (hB6.mono hBd.size)
  have hri := Lib.hid (refimage_cut G st.ok hn4.out G.ws.length rfl sa sc (.slice na cs.length nc) cs w6 hRs6 hRc6 (by omega))
  clear him hG5 hRs5 hry5 hRc5 hB6 hBd
  go_wp2_with fail
  refine hri.out.mono ?_
  rintro e w7 ⟨b2, rfl, hP7, hB7, hb7⟩
  have hG7 := hG6.kept hB7
  have hRs7 := hRs6.kept hB7
  have hry7 := hry6.kept hB7
  have hBf := hBe.trans (hB7.mono hBe.size)
  have hP67 := hP6.only (Only.of_below hB7) (by have := hP6.lt; omega)
  have hq := Lib.hid (equal_img b1 b2 _ (imgP_length G hn4.out (natsI cs)) w7 hP67 hP7)
  clear hri hG6 hRs6 hry6 hRc6 hB7 hBe hP6 hP7 hP67
  go_wp2_with fail
  refine hq.out.mono ?_
  rintro e w8 ⟨rfl, m8, hw8⟩
  have hG8 : GraphSt w8 g G := hw8 ▸ hG7.drewN m8
  have hRs8 : Rd w8 (.slice sa G.ws.length sc) G.ws.length (sCells (stf G)) := hw8 ▸ hRs7.drewN m8
  have hry8 : Rd w8 (.slice ta tl tc) tl (ys.map (.int .i64)) := hw8 ▸ hry7.drewN m8
  have hBg : Below w.heap.size w w8 := hw8 ▸ below_drewN hBf m8
  replace hw8 := Lib.hid hw8
  clear hq hG7 hRs7 hry7 hBf
  go_upto_region 12 with fail
  have htl0 : (0 : Int) ≤ (tl : Int) := by omega
  have htcI : (tl : Int) ≤ (tc : Int) := by omega
  go_upto_region 13 with fail
  obtain ⟨m, hm⟩ : ∃ m : Nat, (min (tl : Int) 30).toNat = m := ⟨_, rfl⟩
  rw [hm]
  have hm1 : m ≤ tl := by omega
  have hm2 : m ≤ 30 := by omega
  have hRt := hry8.take m hm1 (by simpa using hyl.out)
  rw [← List.map_take] at hRt
  have hset : (ys.take m).length = m := by rw [List.length_take, hyl.out]; omega
  clear hry8 hm
  generalize ys.take m = set at *
  subst hset
  have hmem := closedP_mem G set
  have hcv8 := fun w h k => image_ok g G hn4.out (.slice ta set.length tc) set.length set rfl w h k (by omega)
  have hno8 := fun w h k => image_no g G (.slice ta set.length tc) set w h k (by omega)
  have hrc := fun w h k => refclosed_any G st.ok st.cg sa sc ta tc set w h k (by omega) (by omega) htc2
  have hri := fun w h k hp => refimage_any G st.ok hn4.out sa sc (.slice ta set.length tc) set w h k (by omega) hp
  have hil := imgP_length G hn4.out set
  have hsI : (set.length : Int) ≤ tc := by omega
  have hs30 : (set.length : Int) ≤ 30 := by omega
  cases hcs : closedP G set with
  | false =>
    have him := Lib.hid (hno8 w8 hG8 hRt (by rw [hcs]; simp))
    simp only [hcs] at hrc
    replace hrc := Lib.hid hrc
    replace hcs := Lib.hid hcs
    replace hmem := Lib.hid hmem
    replace hil := Lib.hid hil
    clear hno8 hcv8 hri hyl hsl hsl2
    go_wp2_with fail
    refine him.out.mono ?_
    rintro e w9 ⟨rfl, hB9⟩
    have hRs9 := hRs8.kept hB9
    have hRt9 := hRt.kept hB9
    have hBh := hBg.trans (hB9.mono hBg.size)
    have hr9 := Lib.hid (hrc.out w9 hRs9 hRt9)
    clear him hB9 hRs8 hRt hBg hG8
    go_wp2_with fail
    refine hr9.out.mono ?_
    rintro e w10 ⟨rfl, hB10⟩
    have hBi := hBh.trans (hB10.mono hBh.size)
    go_wp2_with fail
    have hp : BoolPost w true (.returned (.bool true)) w10 := ⟨rfl, hBi⟩
    first | exact hp | (go_ret; exact hp)
  | true =>
    have him := Lib.hid (hcv8 w8 hG8 hRt hcs)
    have hpos := fun i hi => ((hmem hcs).2 i hi).1
    simp only [hcs] at hrc
    replace hrc := Lib.hid hrc
    replace hcs := Lib.hid hcs
    replace hmem := Lib.hid hmem
    replace hil := Lib.hid hil
    replace hri := Lib.hid hri
    replace hpos := Lib.hid hpos
    clear hno8 hcv8 hyl hsl hsl2
    go_wp2_with fail
    refine him.out.mono ?_
    rintro e w9 ⟨b3, rfl, hP9, hB9, hb9⟩
    have hRs9 := hRs8.kept hB9
    have hRt9 := hRt.kept hB9
    have hBh := hBg.trans (hB9.mono hBg.size)
    have hr9 := Lib.hid (hrc.out w9 hRs9 hRt9)
    clear him hB9 hRs8 hRt hBg hG8
    go_wp2_with fail
    refine hr9.out.mono ?_
    rintro e w10 ⟨rfl, hB10⟩
    have hRs10 := hRs9.kept hB10
    have hRt10 := hRt9.kept hB10
    have hP10 := hP9.only (Only.of_below hB10) (by have := hP9.lt; omega)
    have hBi := hBh.trans (hB10.mono hBh.size)
    have hi10 := Lib.hid (hri.out w10 hRs10 hRt10 hpos.out)
    clear hr9 hB10 hRs9 hRt9 hBh hP9
    go_wp2_with fail
    refine hi10.out.mono ?_
    rintro e w11 ⟨b4, rfl, hP11, hB11, hb11⟩
    have hP1 := hP10.only (Only.of_below hB11) (by have := hP10.lt; omega)
    have hBj := hBi.trans (hB11.mono hBi.size)
    have hq2 := Lib.hid (equal_img b3 b4 _ hil.out w11 hP1 hP11)
    clear hi10 hRs10 hRt10 hB11 hBi hP10 hP1 hP11
    go_wp2_with fail
    refine hq2.out.mono ?_
    rintro e w12 ⟨rfl, m12, hw12⟩
    have hBk : Below w.heap.size w w12 := hw12 ▸ below_drewN hBj m12
    replace hw12 := Lib.hid hw12
    clear hq2 hBj
    go_wp2_with fail
    have hp : BoolPost w true (.returned (.bool true)) w12 := ⟨rfl, hBk⟩
    first | exact hp | (go_ret; exact hp)
end Go.Proofs.Ytpgjpoilcdkjgaa
