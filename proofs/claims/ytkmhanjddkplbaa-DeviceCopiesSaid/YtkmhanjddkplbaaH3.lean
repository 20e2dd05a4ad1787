/- The reference's Image. -/
import Derived.Test.YtkmhanjddkplbaaH1
import Derived.Test.YtkmhanjddkplbaaE11
namespace Go.Proofs.Ytkmhanjddkplbaa
open Go.RowKit Go.Maps
variable {w : World} {F : Own} {o o' h T : Nat} {R : Dv} {L : Lay}

/-- What the choice says of the dirty lines. -/
def imgK (R : Dv) (ch : List Nat) : List Nat := (dirtyL R).map (chK R ch)
theorem imgK_len (R : Dv) (ch : List Nat) : (imgK R ch).length = (dirtyL R).length := by simp [imgK]
theorem imgK_take (R : Dv) (ch : List Nat) (j n : Nat) (h : (dirtyL R)[j]? = some n) : (imgK R ch).take (j + 1) = (imgK R ch).take j ++ [chK R ch n] := by
  unfold imgK; rw [List.take_add_one, List.getElem?_map, h]; rfl
theorem kOf_img (R : Dv) (ch : List Nat) (l : Nat) (hl : l < R.lines.length) : kOf R (imgK R ch) l = chK R ch l := by
  by_cases hc : 0 < (R.line l).hist.length
  · unfold kOf
    rw [if_pos hc, imgK_len, if_pos (dirty_lt hl hc)]
    unfold imgK
    rw [getD_of 0 (by rw [List.getElem?_map, dirty_place hl hc]; rfl)]
  · unfold kOf
    rw [if_neg hc]
    have := chK_le R ch l
    omega
theorem crash_img (R : Dv) (ch : List Nat) : crashW R (kOf R (imgK R ch)) = imageW R ch := by
  unfold imageW crashW crashLs
  congr 1
  apply List.map_congr_left
  intro l hl
  rw [kOf_img R ch l (by simpa using hl)]
/-- The value for the dirty line at place j. -/
theorem chK_val {R : Dv} {ch : List Nat} {j n : Nat} (h : (dirtyL R)[j]? = some n) (hc : ch ≠ []) : chK R ch n = ch.getD (j % ch.length) 0 % ((R.line n).hist.length + 1) := by
  unfold chK; rw [if_neg hc, (dirty_at h).1]
def RImRel (w w1 : World) (R : Dv) (ch : List Nat) (da : Option Addr) (dc : Nat) (v i : Value) (wr : World) : Prop :=
  ∃ (j : Nat) (a : Option Addr) (c : Nat), j ≤ (dirtyL R).length ∧ i = .int .i64 j ∧ v = .slice a ((imgK R ch).take j).length c ∧ Grow w wr 3 a ((imgK R ch).take j).length c (nats ((imgK R ch).take j)) ∧ Rd wr (.slice da (dirtyL R).length dc) (dirtyL R).length (nats (dirtyL R)) ∧ w1.heap.size ≤ wr.heap.size ∧ ∀ q, Value.ownBlock (.slice a ((imgK R ch).take j).length c) = some q → ∀ q', Value.ownBlock (.slice da (dirtyL R).length dc) = some q' → q ≠ q'
set_option maxHeartbeats 8000000 in
set_option maxRecDepth 100000 in
theorem rimage_any (hr : RefSt w F o h T R) {ca : Option Addr} {cc : Nat} {ch : List Nat} (hch : BytesIn w ca cc ch) : Calls Try.prog 45 #[.pointer (some ⟨h, 0, none⟩), .slice ca ch.length cc] w (NewBytes w (bytesL (imageW R ch))) := by
  generalize hpost : NewBytes w (bytesL (imageW R ch)) = post
  have hn2 := hr.ok.n2
  have hok := hr.ok
  have hA := hr.alloc (.cells #[] 3)
  have hd := Lib.hid (rdirty_any hA)
  have hdl : (dirtyL R).length ≤ R.lines.length := dirtyTo_len R R.lines.length
  have hG0 := Grow.empty w 3
  have hcon : ∀ (w1 : World) (a : Option Addr) (c : Nat), Grow w w1 3 a (imgK R ch).length c (nats (imgK R ch)) → Calls Try.prog 55 #[.pointer (some ⟨h, 0, none⟩), .slice a (imgK R ch).length c] w1 (fun e w' => ∃ v, e = .returned v ∧ post (.returned v) w') := by
    intro w1 a c hG
    have := rcontent_any (hr.below hG.b) a c (imgK R ch) (Rd.of_own hG.own) (fun l hl => by rw [kOf_img R ch l hl]; exact chK_le R ch l) (by rw [imgK_len]; omega)
    rw [crash_img] at this
    refine this.mono ?_
    intro e w' hp
    obtain ⟨b, c, rfl, hq⟩ := hp.up hG.b
    exact ⟨_, rfl, by rw [← hpost]; exact ⟨b, c, rfl, hq⟩⟩
  obtain ⟨lb, lc, ns, h1, h2, h3, _⟩ := hr.ex
  have hlb : lb < w.heap.size := by obtain ⟨cs, _, x, _⟩ := h2; exact ownsRow_lt x (k := lb) rfl
  have c := h1.cell (refCells_lines lb lc ns R)
  have hlt1 := h1.lt
  have hlines := fun (i : Nat) (hi : i < R.lines.length) => h2.cells hi
  have hkt := imgK_take R ch
  have hkl := imgK_len R ch
  have hval := fun (j n : Nat) (hj : (dirtyL R)[j]? = some n) (hc : ch ≠ []) => chK_val (ch := ch) hj hc
  have hval0 := fun (n : Nat) (hc : ch = []) => show chK R ch n = 0 by unfold chK; rw [if_pos hc]
  have hhist := fun n (hn : n < R.lines.length) => (hok.ln n hn).hl
  have hT := hok.t
  have hcm := hch.m
  replace hcon := Lib.hid hcon
  replace hkt := Lib.hid hkt
  replace hkl := Lib.hid hkl
  replace hval := Lib.hid hval
  replace hval0 := Lib.hid hval0
  replace hhist := Lib.hid hhist
  replace hok := Lib.hid hok
  replace hch := Lib.hid hch
  clear hpost hr hA h2
  go_enter Try.func45, Try.ntmps45
  go_wp2_with fail
  refine hd.out.mono ?_
  rintro e w1 ⟨da, dc, rfl, hown, hB1, hfr⟩
  have hG1 := hG0.below hB1
  have hrd := Rd.of_own hown
  have hs1 := hG1.b.size
  have hdmem := fun (j n : Nat) (hj : (dirtyL R)[j]? = some n) => dirtyTo_mem (List.mem_of_getElem? hj)
  replace hdmem := Lib.hid hdmem
  replace hG1 := Lib.hid hG1
  have hdis0 : ∀ q, Value.ownBlock (.slice (some ⟨w.heap.size, 0, none⟩) ((imgK R ch).take 0).length 0) = some q → ∀ q', Value.ownBlock (.slice da (dirtyL R).length dc) = some q' → q ≠ q' := by
    intro q hq q' hq' e
    have := hfr q' hq'
    simp only [World.size_alloc] at this
    simp only [Value.ownBlock, Option.some.injEq] at hq
    omega
  have hdlt : ∀ q', Value.ownBlock (.slice da (dirtyL R).length dc) = some q' → q' < w1.heap.size := fun q' hq' => ownsRow_lt hown hq'
  replace hB1 := Lib.hid hB1
  replace hdis0 := Lib.hid hdis0
  replace hdlt := Lib.hid hdlt
  clear hown hfr hd
  go_wp2_with fail
  go_loopw [5, 13] (fun v i wr => RImRel w w1 R ch da dc v i wr) (fun _ i _ => (dirtyL R).length - (intOf i).toNat)
  case atStart => exact ⟨0, _, 0, Nat.zero_le _, rfl, rfl, hG1.out, hrd, Nat.le_refl _, hdis0.out⟩
  case round =>
    clear hrd
    replace c := Lib.hid c
    obtain ⟨j, a, cc', hj, rfl, rfl, hG, hrd, hsz, hdis⟩ := hrel
    replace hdis := Lib.hid hdis
    by_cases hlt : j < (dirtyL R).length
    · have hjI : (j : Int) < ((dirtyL R).length : Int) := by omega
      have hj0 : (0 : Int) ≤ (j : Int) := by omega
      have hat := get_of_lt 0 hlt
      obtain ⟨bl, ol, cl, ea, fa⟩ := hrd.cells (by omega)
      simp only [Value.slice.injEq, true_and] at ea
      obtain ⟨rfl, hcap⟩ := ea
      replace hcap := Lib.hid hcap
      have ck : wr.cell? ⟨bl, ol + j, none⟩ = _ := fa _ _ (nats_get (dirtyL R) j _ hat)
      have htk := hkt.out j _ hat
      obtain ⟨hn, hnp⟩ := hdmem.out j _ hat
      have hv1 := hval.out j _ hat
      generalize (dirtyL R).getD j 0 = n at *
      obtain ⟨va, vc, hlc, _⟩ := hlines n hn
      obtain ⟨c0, c1, c2, c3, c4, c5, c6, c7, c8, c9⟩ := hlc.only (Only.of_below hG.b) (Nat.not_le.2 hlb)
      have cL := (Only.of_below hG.b).cell c.out (Nat.not_le.2 hlt1)
      have hnI : (n : Int) < (R.lines.length : Int) := by omega
      have hn0 : (0 : Int) ≤ (n : Int) := by omega
      have hhl := hhist.out n hn
      have hll : (R.line n).hist.length = (R.line n).hist.length := rfl
      have hv0 := hval0.out n
      generalize chK R ch n = kv at *
      generalize (R.line n).hist.length = hl at *
      replace htk := Lib.hid htk
      have hlen : ((imgK R ch).take j).length ≤ 4096 := by rw [List.length_take, hkl.out]; omega
      have hfinal : ∀ (w0 : World) (sa : Option Addr) (cap : Nat) (w2 : World), (∃ m, wr.drewN m = w0) → w2.ownsRow 0 3 1 (.slice sa (((imgK R ch).take j).length + 1) cap) (((imgK R ch).take j).length + 1) (nats ((imgK R ch).take j) ++ [.int .i64 (kv : Int)]) → Only (fun k => Value.ownBlock (.slice a ((imgK R ch).take j).length cc') = some k) w0 w2 →
          (∀ k, Value.ownBlock (.slice sa (((imgK R ch).take j).length + 1) cap) = some k → Value.ownBlock (.slice a ((imgK R ch).take j).length cc') = some k ∨ w0.heap.size ≤ k) →
          RImRel w w1 R ch (some ⟨bl, ol, none⟩) dc (.slice sa (((imgK R ch).take j).length + 1) cap) (.int .i64 ((j : Int) + 1)) w2 := by
        rintro w0 sa cap w2 ⟨m, rfl⟩ own2 only2 fresh2
        have hGm := hG.below (below_drewN (Below.refl _ _) m)
        have hG2 := hGm.app own2 only2 fresh2
        refine ⟨j + 1, sa, cap, by omega, by go_num, ?_, ?_, ?_, Nat.le_trans hsz only2.size, ?_⟩
        · rw [htk.out]; simp
        · rw [htk.out, nats_snoc]; simpa using hG2
        · exact (hrd.drewN m).only only2 (fun q' hq' s => hdis.out q' s q' hq' rfl)
        · rw [htk.out]
          intro q hq q' hq' e
          simp only [List.length_append, List.length_singleton] at hq
          rcases fresh2 q hq with h5 | h5
          · exact hdis.out q h5 q' hq' e
          · have h6 := hdlt.out q' hq'
            simp only [World.heap_drewN] at h5
            omega
      have hownw : ∀ m, (wr.drewN m).ownsRow 0 3 1 (.slice a ((imgK R ch).take j).length cc') ((imgK R ch).take j).length (nats ((imgK R ch).take j)) := fun m => (hG.below (below_drewN (Below.refl _ _) m)).own
      have hby : (((imgK R ch).take j).length + 1) * 8 ≤ 140737488355328 := by omega
      replace hfinal := Lib.hid hfinal
      replace hownw := Lib.hid hownw
      by_cases hce : ch = []
      · have hk0 := hv0 hce
        subst hk0
        have hcl0 : ch.length = 0 := by rw [hce]; rfl
        have hown0 := hownw.out 0
        have hfin0 := fun sa cap w2 => hfinal.out wr sa cap w2 ⟨0, rfl⟩
        rw [hcl0]
        generalize hX : (imgK R ch).take j = X at *
        replace hX := Lib.hid hX
        replace hll := Lib.hid hll
        replace hv0 := Lib.hid hv0
        replace hv1 := Lib.hid hv1
        replace hce := Lib.hid hce
        replace hcl0 := Lib.hid hcl0
        replace hfin0 := Lib.hid hfin0
        clear hlc hrd hG
        go_wp2_with (at_builtin; go_loud (refine wpList_app1 rfl (.tmp 40) (.tmp 42) 71 rfl 3 (.int .i64 0) 8 Try.underlying71 infoInt rfl (by decide) a X.length cc' (nats X) rfl (.int .i64 0) _ wr rfl rfl hown0 _ rfl rfl (by simp [Value.oneCell']) hby ?_); intro sa cap w2 own2 only2 fresh2)
        have hrel := hfin0.out sa cap w2 own2 only2 fresh2
        refine ⟨hrel, ?_⟩
        simp [intOf]; omega
      · have hcp : 0 < ch.length := List.length_pos_iff.2 hce
        have hk1 := hv1 hce
        have hcpI : (0 : Int) < (ch.length : Int) := by omega
        have hq8 : j % ch.length < ch.length := Nat.mod_lt _ hcp
        have hBw : Below w.heap.size w wr := hG.b
        obtain ⟨cb, co, cp, eb, fb⟩ := (hch.out.r.kept hBw).cells hcp
        simp only [Value.slice.injEq, true_and] at eb
        obtain ⟨rfl, hcap2⟩ := eb
        replace hcap2 := Lib.hid hcap2
        have hx8 : ch.getD (j % ch.length) 0 < 256 := hch.out.lt _ (mem_getD 0 hq8)
        have hc9 : wr.cell? ⟨cb, co + j % ch.length, none⟩ = _ := fb _ _ (u8s_get ch _ _ (get_of_lt 0 hq8))
        generalize ch.getD (j % ch.length) 0 = x at *
        obtain ⟨q, hq⟩ : ∃ q, q = j % ch.length := ⟨_, rfl⟩
        rw [← hq] at hc9 hq8
        have e1 : Int.tmod (j : Int) (ch.length : Int) = (q : Int) := by rw [Int.tmod_eq_emod_of_nonneg (by omega), hq]; simp
        obtain ⟨s, hs⟩ : ∃ s, s = hl + 1 := ⟨_, rfl⟩
        have e2 : IntKind.i64.wrap ((hl : Int) + 1) = (s : Int) := by rw [IntWalk.i64_in _ (by omega)]; omega
        have e3 : IntKind.i64.wrap (x : Int) = (x : Int) := IntWalk.i64_in _ (by omega)
        have e4 : Int.tmod (x : Int) (s : Int) = (kv : Int) := by rw [Int.tmod_eq_emod_of_nonneg (by omega), hk1, hs]; simp
        have hsp : (0 : Int) < (s : Int) := by omega
        have hs0 : ¬ (s : Int) = 0 := by omega
        have hm0 : ¬ (ch.length : Int) = 0 := by omega
        have hqI : (q : Int) < (ch.length : Int) := by omega
        have hq0 : (0 : Int) ≤ (q : Int) := by omega
        generalize ch.length = m at *
        generalize hX : (imgK R ch).take j = X at *
        replace hX := Lib.hid hX
        replace hll := Lib.hid hll
        replace hq := Lib.hid hq
        replace hs := Lib.hid hs
        replace hk1 := Lib.hid hk1
        replace hv0 := Lib.hid hv0
        replace hv1 := Lib.hid hv1
        replace hce := Lib.hid hce
        clear hlc fa fb hrd hG
        go_wp2_with fail
        go_quiet (fail)
        go_wp2_with (at_builtin; go_loud (refine wpList_app1 rfl (.tmp 40) (.tmp 42) 71 rfl 3 (.int .i64 0) 8 Try.underlying71 infoInt rfl (by decide) a X.length cc' (nats X) rfl (.int .i64 (kv : Int)) _ (wr.drewN nq) rfl rfl (hownw.out nq) _ rfl rfl (by simp [Value.oneCell']) hby ?_); intro sa cap w2 own2 only2 fresh2)
        have hrel := hfinal.out _ sa cap w2 ⟨nq, rfl⟩ own2 only2 fresh2
        refine ⟨hrel, ?_⟩
        simp [intOf]; omega
    · obtain rfl : j = (dirtyL R).length := by omega
      have e1 : (imgK R ch).take (dirtyL R).length = imgK R ch := by rw [← hkl.out, List.take_length]
      rw [e1] at hG
      replace e1 := Lib.hid e1
      have hx := Lib.hid (hcon.out wr a cc' hG)
      have e2 : ((imgK R ch).take (dirtyL R).length).length = (imgK R ch).length := by rw [e1.out]
      rw [e2]
      replace e2 := Lib.hid e2
      clear hG hrd hdis
      generalize (imgK R ch).length = il at *
      go_wp2_with fail
      refine hx.out.mono ?_
      rintro e w' ⟨v, rfl, hp⟩
      replace hp := Lib.hid hp
      go_wp2_with fail
      first | exact hp.out | (go_ret; exact hp.out)
end Go.Proofs.Ytkmhanjddkplbaa
