/- CrashsetYields: the walk. -/
import Derived.Test.YtikjpklbbjmioaaK23
import Derived.Test.YtikjpklbbjmioaaQRI
import Derived.Test.YtikjpklbbjmioaaItB
import Derived.Test.YtikjpklbbjmioaaK11
namespace Go.Proofs.Ytikjpklbbjmioaa
open Go.RowKit Go.Maps Go.BigFrame
attribute [local go_sem] Oper.semAt_some
variable {w : World} {F : Own} {o o' h T : Nat} {R : Dv} {L : Lay} {wx : World} {B : Nat}
theorem Two.r5countY (hp : Two w B L h T R wx) : Calls Try.prog 20 #[.pointer (some ⟨h, 0, none⟩)] wx fun e w' => e = .returned (.tuple #[.int .u64 (((cntV R).1 : Nat) : Int), .bool (cntV R).2]) ∧ Two w B L h T R w' ∧ Below wx.heap.size wx w' := by
  obtain ⟨F, h1, h2, h3⟩ := hp.ex
  exact (rcount_any h2).mono fun e w' ⟨he, hb⟩ => ⟨he, hp.below hb, hb⟩
set_option maxHeartbeats 8000000 in
set_option maxRecDepth 100000 in
theorem yields_walk (W : World) (lines : Int) (a : Option Addr) (c : Nat) (xs : List Evt) (hr : RunIn W lines a c xs) (lim leave : Int) (hlm : i64B lim) :
    Calls Try.prog 6 #[.agg #[.int .i64 lines, .slice a xs.length c], .int .i64 lim, .int .i64 leave] W fun e w' => e = .returned (.bool true) ∧ Below W.heap.size W w' := by
  generalize hpost : (fun (e : Ending) w' => e = .returned (.bool true) ∧ Below W.heap.size W w') = post
  replace hpost := Lib.hid hpost
  have hb1 : Below W.heap.size W (((W.alloc (.cells #[.int .i64 lines, .slice a xs.length c] 54)).alloc (.cells #[.int .i64 leave] 3)).alloc (.cells #[.bool false] 4)) :=
    (((Below.refl _ _).alloc (Nat.le_refl _) _).alloc (by simp) _).alloc (by simp; omega) _
  have hpl := play5_any hr hb1
  have hl6 := played_len lines (xs.take 30)
  generalize playP (newP (nLines lines)) (xs.take 30) = R at *
  replace hpl := Lib.hid hpl
  replace hb1 := Lib.hid hb1
  clear hr
  unfold i64B at hlm
  refine calls_of_marks Try.func6 rfl ?_
  simp only [Try.ntmps6, List.size_toArray, List.length_cons, List.length_nil, Nat.reduceAdd, Nat.reduceSub, Array.replicate_succ, Array.replicate_zero, List.push_toArray, List.append_toArray, List.nil_append, List.cons_append]
  obtain ⟨W0, hW0⟩ : ∃ W0, W0 = ((W.alloc (.cells #[.int .i64 lines, .slice a xs.length c] 54)).alloc (.cells #[.int .i64 leave] 3)).alloc (.cells #[.bool false] 4) := ⟨_, rfl⟩
  have hLv : W0.cell? ⟨W.heap.size + 1, 0, none⟩ = some (.int .i64 leave) := by
    rw [hW0]
    have h := (Has.new (W.alloc (.cells #[.int .i64 lines, .slice a xs.length c] 54)) [Value.int .i64 leave] 3).alloc (.cells #[.bool false] 4)
    rw [World.size_alloc] at h
    exact h.cell (o := 0) rfl
  have hRs : Has W0 (W.heap.size + 1 + 1) [.bool false] 4 := by
    rw [hW0]
    have h := Has.new ((W.alloc (.cells #[.int .i64 lines, .slice a xs.length c] 54)).alloc (.cells #[.int .i64 leave] 3)) [Value.bool false] 4
    rw [World.size_alloc, World.size_alloc] at h
    exact h
  rw [← hW0] at hpl hb1
  have hs0 : W0.heap.size = W.heap.size + 1 + 1 + 1 := by rw [hW0]; simp
  have c0 := (Has.new W [.int .i64 lines, .slice a xs.length c] 54).cell (o := 0) rfl
  replace hW0 := Lib.hid hW0
  replace hLv := Lib.hid hLv
  replace hRs := Lib.hid hRs
  go_wp2_with fail
  rw [← hW0.out]
  refine hpl.out.mono ?_
  rintro e w1 ⟨L, h, rfl, t1⟩
  have t2 := t1.alloc (.cells #[.pointer (some ⟨h, 0, none⟩)] 35)
  have hbR := Has.new w1 [Value.pointer (some ⟨h, 0, none⟩)] 35
  have hcf := cnt_few t1.ok hl6
  have q1 := t2.r5countY
  rw [hcf] at q1
  obtain ⟨cn, hcn⟩ : ∃ cn, cn = prodL R (dirtyL R) := ⟨_, rfl⟩
  simp only [← hcn] at q1
  have hs1 := t1.b.size
  have hLv1 := (t1.b.cell (World.block_lt_of_cell? _ _ hLv.out)).trans hLv.out
  have hRs1 := hRs.out.only (Only.of_below t1.b) (Nat.not_le.2 hRs.out.lt)
  obtain ⟨lm, hlm2⟩ : ∃ lm : Int, lm = min lim 200 := ⟨_, rfl⟩
  have hlm3 : (if (200 : Int) < lim then (200 : Int) else lim) = lm := by
    by_cases h : (200 : Int) < lim
    · rw [if_pos h]; omega
    · rw [if_neg h]; omega
  have hlm4 : min lim 200 = lm := hlm2.symm
  have hlm5 : lm ≤ 200 := by omega
  have cb := hbR.cell (o := 0) rfl
  replace q1 := Lib.hid q1
  replace hlm2 := Lib.hid hlm2
  replace hcn := Lib.hid hcn
  replace hcf := Lib.hid hcf
  replace hbR := Lib.hid hbR
  replace hLv1 := Lib.hid hLv1
  replace hRs1 := Lib.hid hRs1
  clear hpl c0 t1
  have hfin : ∀ wx, Two W0 W0.heap.size L h 60 R wx → Below W0.heap.size W0 wx := fun wx hp => hp.b
  go_wp2_with fail
  refine q1.out.mono ?_
  rintro e w2 ⟨rfl, t3, b3⟩
  have hbR2 := hbR.out.only (Only.of_below b3) (Nat.not_le.2 hbR.out.lt)
  have hRs2 := hRs1.out.only (Only.of_below ((Below.refl w1.heap.size w1).alloc (Nat.le_refl _) (.cells #[.pointer (some ⟨h, 0, none⟩)] 35))) (Nat.not_le.2 hRs1.out.lt)
  have hRs3 := hRs2.only (Only.of_below b3) (Nat.not_le.2 hRs2.lt)
  have hLv2 : w2.cell? ⟨W.heap.size + 1, 0, none⟩ = some (.int .i64 leave) := by
    have hl1 := World.block_lt_of_cell? _ _ hLv1.out
    have h2 := (((Below.refl w1.heap.size w1).alloc (Nat.le_refl _) (.cells #[.pointer (some ⟨h, 0, none⟩)] 35)).cell hl1).trans hLv1.out
    exact (b3.cell (World.block_lt_of_cell? _ _ h2)).trans h2
  have hN2 := Has.new w2 [Value.int .i64 0] 3
  have hsz := b3.size
  simp only [World.size_alloc] at hsz
  have hb20 : Below W.heap.size W w2 := hb1.out.trans (t3.b.mono hb1.out.size)
  have hbA : Below w2.heap.size w2 (w2.alloc (.cells #[.int .i64 0] 3)) := (Below.refl _ _).alloc (Nat.le_refl _) _
  replace t3 := Lib.hid t3
  replace hN2 := Lib.hid hN2
  replace hbR2 := Lib.hid hbR2
  replace hRs3 := Lib.hid hRs3
  replace hLv2 := Lib.hid hLv2
  replace hb20 := Lib.hid hb20
  replace hbA := Lib.hid hbA
  clear q1 t2 b3 hbR cb hRs1 hRs2 hLv1 hRs hLv
  go_wp2_with fail
  refine (call_CAll _ _ _).mono ?_
  rintro e w3 ⟨rfl, b4, hg1, hg2⟩
  have hb3 : Below w2.heap.size w2 w3 := hbA.out.trans (b4.mono (by simp))
  have hN3 := hN2.out.only (Only.of_below b4) (Nat.not_le.2 hN2.out.lt)
  have hz3 := hN3.lt
  have hz4 := World.block_lt_of_cell? _ _ hg2
  simp only [World.size_alloc] at hg1 hg2 hz4
  have hseq : ∀ Wx, Below w3.heap.size w3 Wx → SeqOwn Fence.wide 2 Try.prog 73 #[.pointer (some ⟨w2.heap.size + 1, 0, none⟩), .pointer (some ⟨w2.heap.size + 1 + 1, 0, none⟩)] (fun x : Nat => #[.agg #[.string (strOf (atB R x))]]) (fun k => k = w2.heap.size + 1 + 1)
      (fun _ pre x _ => x = pre.length ∧ restR R (dirtyL R) x = 0) (fun xs => xs.length = min lm.toNat (prodL R (dirtyL R))) (fun _ => True) lm.toNat Wx := fun Wx hb => by
    obtain ⟨F, h1, _⟩ := (t3.out.below (hb3.trans (hb.mono hb3.size))).ex
    exact all_own 2 _ _ lm Wx (by omega) h1 ((hb.cell (World.block_lt_of_cell? _ _ hg1)).trans hg1) ((hb.cell hz4).trans hg2)
  have hWx : W.heap.size ≤ w2.heap.size := hb20.out.size
  have hl2 : W.heap.size + 1 + 1 < w2.heap.size := hRs3.out.lt
  have hl3 : w1.heap.size < w2.heap.size := hbR2.out.lt
  have cN3 := hN3.cell (o := 0) rfl
  have fN3 := hN3.free 0
  rw [← hcn.out] at hseq
  replace hseq := Lib.hid hseq
  clear hN3 hN2 hg1 hg2 hbA
  go_wp2_with fail
  refine wp_rangeFunc_rollB (α := Nat) (q := 13) (gf := 73) (lb := #[.pointer (some ⟨w2.heap.size + 1, 0, none⟩), .pointer (some ⟨w2.heap.size + 1 + 1, 0, none⟩)]) rfl (enters_of Try.func73 (by kernel_rfl) rfl) (enc := fun x => .agg #[.string (strOf (atB R x))]) (r := fun k => k = w2.heap.size + 1 + 1) (Giv := fun _ pre x _ => x = pre.length ∧ restR R (dirtyL R) x = 0)
    (S := fun xs => xs.length = min lm.toNat cn) (Sp := fun _ => True) (N := lm.toNat) hseq.out (fun k hk => by rw [hk]; exact hz4) (fun _ _ _ _ _ _ _ _ _ _ h => h)
    (fun c pre A => A.cell? ⟨w2.heap.size, 0, none⟩ = some (.int .i64 (pre.length : Int)) ∧ A.frozen? ⟨w2.heap.size, 0, none⟩ = false ∧ Below w2.heap.size w2 A)
    (fun c j pre A => j = .ret ∧ A.cell? ⟨W.heap.size + 1 + 1, 0, none⟩ = some (.bool true) ∧ Below W.heap.size W A) ?hI ?hIx (fun c _ => ⟨cN3, fN3, hb3⟩) (fun x => [.string (strOf (atB R x))]) 44 (fun _ _ _ _ _ h => h) ?assign ?body ?done ?stop
  case hI =>
    rintro c pre A E hc ⟨h1, h2, h3⟩ hr
    have hn : ¬ c w2.heap.size := fun e => by have := hc _ e; omega
    exact ⟨hr.cell hn h1, hr.frozen hn h1 h2, hr.below hc (by omega) h3 (Nat.le_refl _)⟩
  case hIx =>
    rintro c j pre A E hc ⟨rfl, h1, h2⟩ hr
    have hn : ¬ c (W.heap.size + 1 + 1) := fun e => by have := hc _ e; omega
    exact ⟨rfl, hr.cell hn h1, hr.below hc (by omega) h2 (Nat.le_refl _)⟩
  case assign =>
    intro l x A K hK
    gi_wp2
    exact hK
  case body =>
    rintro l c pre x b A hc hb hbx ⟨h1, h2, h3⟩ ⟨rfl, hrz⟩ hlen
    have hx200 : pre.length < 200 := by omega
    have tA := t3.out.below h3
    have hlen2 : 0 < (atB R pre.length).length := by
      unfold atB
      rw [bytesL_len, crashW_len tA.ok]
      have := tA.ok.n1; omega
    have hat : atOk R pre.length = true := by unfold atOk; exact decide_eq_true hrz
    have q4 := tA.r5at pre.length (by omega)
    unfold RAtPost at q4
    simp only [if_pos hat] at q4
    have hu : IntKind.u64.wrap (pre.length : Int) = (pre.length : Int) := IntWalk.u64_in _ (by omega)
    have hbB := ibytes_any
    have hIb := fun wx => ibytes_any wx (atB R pre.length) (bytesL_256 _)
    have cR := (hbR2.out.only (Only.of_below h3) (by omega)).cell (o := 0) rfl
    have cL : A.cell? ⟨W.heap.size + 1, 0, none⟩ = some (.int .i64 leave) := (h3.cell (World.block_lt_of_cell? _ _ hLv2.out)).trans hLv2.out
    have hRsA := hRs3.out.only (Only.of_below h3) (by omega)
    have cB := hbx.cell (o := 0) rfl
    have hwl : ∀ k, c k → w3.heap.size ≤ k := hc
    generalize hst : strOf (atB R pre.length) = st at *
    replace hu := Lib.hid hu
    replace hst := Lib.hid hst
    have hc1 : ∀ (a' : Option Addr) (c' : Nat) (w4 : World), Grow A w4 5 a' (atB R pre.length).length c' (u8s (atB R pre.length)) → Str w4 (.slice a' (atB R pre.length).length c') st ∧ Below A.heap.size A w4 := fun a' c' w4 hG => by
      rw [← hst.out]; exact ⟨hG.str (bytesL_256 _) hlen2, hG.b⟩
    replace hc1 := Lib.hid hc1
    replace q4 := Lib.hid q4
    have hI2 : ∀ wx, Calls Try.prog 24 #[.agg #[.string st]] wx (SPost wx st) := fun wx => by
      rw [← hst.out]
      exact (ibytes_any wx (atB R pre.length) (bytesL_256 _)).mono fun e w' h => h.s (bytesL_256 _) hlen2
    replace hI2 := Lib.hid hI2
    replace hlen2 := Lib.hid hlen2
    have hcA := World.block_lt_of_cell? _ _ h1
    have hn : ¬ c w2.heap.size := fun e => by have := hc _ e; omega
    clear hIb hbB hrz hat hbx
    generalize (atB R pre.length).length = pl at *
    gi_wp2_with (refine ⟨trivial, ?_⟩; gi_at_call 22; refine (CallsIn.inRound l (callsIn_wide.2 q4.out)).mono ?_; rintro e w4 ⟨pa, pc, rfl, hG⟩)
    obtain ⟨s4, b44⟩ := hc1.out _ _ _ hG
    have hI4 : ∀ wx, Below w4.heap.size w4 wx → wx.cell? ⟨b, 0, none⟩ = some (.string st) := fun wx hB => Only.cell (Only.of_below hB) ((b44.cell (World.block_lt_of_cell? _ _ cB)).trans cB) (Nat.not_le.2 (World.block_lt_of_cell? _ _ ((b44.cell (World.block_lt_of_cell? _ _ cB)).trans cB)))
    have kB : Below w4.heap.size w4 w4 := Below.refl _ _
    have kE : ∀ wx, Below w4.heap.size w4 wx → Below A.heap.size A wx := fun wx hB => Fr.step b44 hB
    clear hG hc1 q4 tA cR
    replace s4 := Lib.hid s4
    replace hI4 := Lib.hid hI4
    replace kE := Lib.hid kE
    gi_wp2_with fail
    refine wpIn_region_call1 (fun _ => trivial) (fun h => (by cases h)) (fun f args w R c => CallsIn.inRound l (callsIn_wide.2 c)) 1 [2] (C0 := fun w' => w' = w4.drew) (C1 := fun v w' => Str w' v st ∧ Below w4.heap.size w4 w') (by kernel_rfl) (by kernel_rfl) (by decide) ?hnd (by kernel_rfl) rfl (fun wx hx => ?_) (fun v hx => ?_)
    case hnd =>
      intro i o ho c'
      match i with
      | 0 | 1 | 2 | 3 | 4 | 5 => simp at ho; subst ho; simp
      | i + 6 => simp at ho
    · obtain ⟨e, w', v, _, h1, h2⟩ := Calls.ex (hI2.out wx)
      exact ⟨v, w', h1, Fr.step (by rw [hx]; exact Fr.drew kB) h2⟩
    · obtain ⟨w', sA, kC⟩ := hx
      have cI0 : ∀ wx, clsAt (cls1 (fun w' => w' = w4.drew) (fun v w' => Str w' v st ∧ Below w4.heap.size w4 w')) [v] 0 wx → wx.cell? ⟨b, 0, none⟩ = some (.string st) := fun wx hx => hI4.out wx (by
        rcases cls1_at0 hx with h | h
        · rw [h]; exact Fr.drew kB
        · exact h.2)
      have cV : ∀ wx, clsAt (cls1 (fun w' => w' = w4.drew) (fun v w' => Str w' v st ∧ Below w4.heap.size w4 w')) [v] 1 wx → (convert 31 9 v).run Try.prog wx = .ok (.string st) wx := fun wx hx => (cls1_at1 hx).1 _ (Below.refl _ _)
      have cU : ∀ wx, clsAt (cls1 (fun w' => w' = w4.drew) (fun v w' => Str w' v st ∧ Below w4.heap.size w4 w')) [v] 0 wx → (convert 31 9 (.slice pa pl pc)).run Try.prog wx = .ok (.string st) wx := fun wx hx => s4.out wx (by
        rcases cls1_at0 hx with h | h
        · rw [h]; exact Fr.drew kB
        · exact h.2)
      replace cI0 := Lib.hid cI0
      replace cV := Lib.hid cV
      replace cU := Lib.hid cU
      refine lex_chunk 0 1 _ _ _ (fun _ _ => Nat.zero_le _) (by kernel_rfl) (fun j hj => by unfold rk1; rw [if_neg (by omega)]) (by decide) ?_
      simp only [List.take_succ_cons, List.take_zero, List.drop_succ_cons, List.drop_zero]
      go_big_quiet_want
      go_big_quiet_op
      refine ⟨.agg #[.string st], fun wx hx => by simp [go_sem, cI0.out wx hx], ?_⟩
      go_big_quiet_on
      refine wpQuiet_nil ?_
      refine lex_call (r := 0) (v := v) rfl (by go_simp; exact rfl) rfl (by kernel_rfl) (fun wx hx => ?_) ?_
      · replace hx : wx = w4.drew := hx
        refine callUpon_mk (f := 24) (args := #[.agg #[.string st]]) (by simp [go_sem]) ?_
        exact (hI2.out wx).mono fun e w'' ⟨v', he, h1, h2⟩ => ⟨v', he, h1, Fr.step (by rw [hx]; exact Fr.drew kB) h2⟩
      refine lex_chunk 1 1 _ _ _ (fun j hj => by obtain rfl : j = 0 := by omega
                                                 decide) (by kernel_rfl) (fun j hj => by unfold rk1; rw [if_neg (by omega)]) (by decide) ?_
      simp only [List.take_succ_cons, List.take_zero, List.drop_succ_cons, List.drop_zero]
      go_big_quiet_want
      go_big_quiet_op
      refine ⟨.string st, fun wx hx => by rw [cV.out wx hx]; exact ⟨rfl, rfl⟩, ?_⟩
      go_big_quiet_on
      refine wpQuiet_nil ?_
      refine lex_chunk 0 2 _ _ _ (fun _ _ => Nat.zero_le _) (by kernel_rfl) (fun j hj => by unfold rk1; rw [if_neg (by omega)]) (by decide) ?_
      simp only [List.take_succ_cons, List.take_zero, List.drop_succ_cons, List.drop_zero]
      go_big_quiet_want
      go_big_quiet_op
      go_big_quiet_on
      go_big_quiet_want
      go_big_quiet_op
      refine ⟨.string st, fun wx hx => by rw [cU.out wx hx]; exact ⟨rfl, rfl⟩, ?_⟩
      go_big_quiet_on
      refine wpQuiet_nil ?_
      refine lex_chunk 0 1 _ _ _ (fun _ _ => Nat.zero_le _) (by kernel_rfl) (fun j hj => by unfold rk1; rw [if_neg (by omega)]) (by decide) ?_
      simp only [List.take_succ_cons, List.take_zero, List.drop_succ_cons, List.drop_zero]
      repeat (first | go_big_quiet_skip | (go_big_quiet_want; go_big_quiet_op; first | go_big_quiet_on | (refine ⟨_, fun _ _ => rfl, ?_⟩; go_big_quiet_on)))
      refine wpQuiet_nil ?_
      intro wz hz
      have hAz := kE.out _ hz.2
      have n1 := (hAz.cell hcA).trans h1
      have nf := (hAz.frozen (p := ⟨w2.heap.size, 0, none⟩) hcA).trans h2
      have cLz := (hAz.cell (World.block_lt_of_cell? _ _ cL)).trans cL
      have hRsz := hRsA.only (Only.of_below hAz) (by have := hRsA.lt; omega)
      have h3z : Below w2.heap.size w2 wz := h3.trans (hAz.mono h3.size)
      have hwr := Lib.hid (show wrap64 ((pre.length : Int) + 1) = (pre.length : Int) + 1 by unfold wrap64; omega)
      have hl2' : (pre ++ [pre.length]).length = pre.length + 1 := by rw [List.length_append, List.length_singleton]
      have nL : (wz.setCell ⟨w2.heap.size, 0, none⟩ (.int .i64 ((pre.length : Int) + 1))).cell? ⟨W.heap.size + 1, 0, none⟩ = some (.int .i64 leave) := by
        rw [World.cell?_setCell_other _ _ _ _ (by intro e; injection e with e; omega)]; exact cLz
      have nN : (wz.setCell ⟨w2.heap.size, 0, none⟩ (.int .i64 ((pre.length : Int) + 1))).cell? ⟨w2.heap.size, 0, none⟩ = some (.int .i64 ((pre.length : Int) + 1)) := by
        exact World.cell?_setCell_same' _ _ _ (by rw [n1]; rfl)
      have hk1 : KeepsFrom w3.heap.size A wz := ⟨hAz.size, fun k o _ hk _ => (hAz.block k (Array.getElem?_eq_some_iff.1 hk).1).trans hk⟩
      have hk0 : KeepsFrom w3.heap.size A (wz.setCell ⟨w2.heap.size, 0, none⟩ (.int .i64 ((pre.length : Int) + 1))) := hk1.trans ((KeepsOthers.setCell _ _ _).from _)
      have hne : ¬ (c w2.heap.size ∨ w2.heap.size = w2.heap.size + 1 + 1) := fun e => by
        rcases e with e | e
        · exact hn e
        · omega
      have hkb : KeepB (fun k => c k ∨ k = w2.heap.size + 1 + 1) A (wz.setCell ⟨w2.heap.size, 0, none⟩ (.int .i64 ((pre.length : Int) + 1))) := (KeepB.of_below hAz (Nat.le_refl _)).setCell _ hne
      have hb5 : Below w2.heap.size w2 (wz.setCell ⟨w2.heap.size, 0, none⟩ (.int .i64 ((pre.length : Int) + 1))) := h3z.setCell (p := ⟨w2.heap.size, 0, none⟩) (Nat.le_refl _) _
      have hRs5 := hRsz.set_ne (a := ⟨w2.heap.size, 0, none⟩) (by show W.heap.size + 1 + 1 ≠ w2.heap.size; omega) (.int .i64 ((pre.length : Int) + 1))
      have cRs5 := hRs5.cell (o := 0) rfl
      have fRs5 := hRs5.free 0
      have hRs6 := (hRs5.set 0 (.bool true)).cell (o := 0) rfl
      have hbW : Below W.heap.size W ((wz.setCell ⟨w2.heap.size, 0, none⟩ (.int .i64 ((pre.length : Int) + 1))).setCell ⟨W.heap.size + 1 + 1, 0, none⟩ (.bool true)) := (hb20.out.trans (hb5.mono hWx)).setCell (p := ⟨W.heap.size + 1 + 1, 0, none⟩) (by show W.heap.size ≤ W.heap.size + 1 + 1; omega) _
      have nI : (wz.setCell ⟨w2.heap.size, 0, none⟩ (.int .i64 ((pre.length : Int) + 1))).cell? ⟨w2.heap.size, 0, none⟩ = some (.int .i64 (((pre ++ [pre.length]).length : Nat) : Int)) := by rw [hl2', nN]; rfl
      have nf2 : (wz.setCell ⟨w2.heap.size, 0, none⟩ (.int .i64 ((pre.length : Int) + 1))).frozen? ⟨w2.heap.size, 0, none⟩ = false := by rw [World.frozen?_setCell]; exact nf.trans rfl
      have hN := Lib.hid (show KeepsFrom w3.heap.size A (wz.setCell ⟨w2.heap.size, 0, none⟩ (.int .i64 ((pre.length : Int) + 1))) ∧ KeepB (fun k => c k ∨ k = w2.heap.size + 1 + 1) A (wz.setCell ⟨w2.heap.size, 0, none⟩ (.int .i64 ((pre.length : Int) + 1))) ∧ _ ∧ _ ∧ _ from ⟨hk0, hkb, nI, nf2, hb5⟩)
      have hX := Lib.hid (show _ ∧ Code.ret = Code.ret ∧ _ ∧ _ from ⟨hk0.trans ((KeepsOthers.setCell (wz.setCell ⟨w2.heap.size, 0, none⟩ (.int .i64 ((pre.length : Int) + 1))) ⟨W.heap.size + 1 + 1, 0, none⟩ (.bool true)).from _), rfl, hRs6, hbW⟩)
      clear hz cI0 cV cU sA kC hI4 kE s4 cLz hk0 hkb nI nf2 hb5 hRs5 hRs6 hbW hRsz hAz h3z hl2' hne hk1
      simp only [Exit.then]
      by_cases hle : (pre.length : Int) + 1 = leave
      · have hbq := beq_iff_eq.2 hle
        subst hle
        gi_wp2
        exact ⟨hX.out.1, rfl, hX.out.2.2⟩
      · have hbq := beq_eq_false_iff_ne.2 hle
        gi_wp2
        exact hN.out
  case done =>
    rintro D c xs A hD hc hS ⟨h1, h2, h3⟩ hK
    replace hS : xs.length = min lm.toNat cn := hS
    obtain ⟨S, hSe⟩ : ∃ S : Nat, S = xs.length := ⟨_, rfl⟩
    rw [← hSe] at hS h1
    obtain ⟨m, hm⟩ : ∃ m : Int, m = max lm 0 := ⟨_, rfl⟩
    have hm0 : 0 ≤ m := by omega
    have hm2 : m ≤ 200 := by omega
    have hmx : max lm 0 = m := hm.symm
    have hm4 : (if lm < 0 then (0 : Int) else lm) = m := by
      by_cases h : lm < 0
      · rw [if_pos h]; omega
      · rw [if_neg h]; omega
    have hm5 : (if (0 : Int) < lm then lm else 0) = m := by
      by_cases h : (0 : Int) < lm
      · rw [if_pos h]; omega
      · rw [if_neg h]; omega
    have hSm : S = min m.toNat cn := by omega
    have hmn : min m (cn : Int) = (S : Int) := by omega
    have hmn2 : (if (cn : Int) < m then (cn : Int) else m) = (S : Int) := by
      by_cases h : (cn : Int) < m
      · rw [if_pos h]; omega
      · rw [if_neg h]; omega
    have hS2 : S ≤ 200 := by omega
    have hu1 : IntKind.u64.wrap m = m := IntWalk.u64_in _ (by omega)
    have hu2 : wrap64 (S : Int) = (S : Int) := by unfold wrap64; omega
    obtain ⟨F, hD1, hD2, _⟩ := (t3.out.below h3).ex
    have tA := same_any hD1 hD2
    clear hD1 hD2
    have hRA := hRs3.out.only (Only.of_below h3) (by omega)
    have cRf := (hbR2.out.only (Only.of_below h3) (by omega)).cell (o := 0) rfl
    have hKlt := (Array.getElem?_eq_some_iff.1 hK).1
    have hlA := hRA.lt
    have hb2A := hb20.out.trans (h3.mono hWx)
    replace tA := Lib.hid tA
    replace hRA := Lib.hid hRA
    replace hS := Lib.hid hS
    replace hSe := Lib.hid hSe
    replace hSm := Lib.hid hSm
    replace hm := Lib.hid hm
    replace hK := Lib.hid hK
    replace hu2 := Lib.hid hu2
    replace hb2A := Lib.hid hb2A
    clear hRs3 hLv2 hbR2 hseq
    go_wp2_with (refine tA.out.mono ?_; rintro e w5 ⟨rfl, b5⟩; have hR5 := hRA.out.only (Only.of_below b5) (Nat.not_le.2 hlA); have cR5 := hR5.cell (o := 0) rfl; have fR5 := hR5.free 0)
    have hR6 := hR5.set 0 (.bool true)
    have hK6 : (w5.setCell ⟨W.heap.size + 1 + 1, 0, none⟩ (.bool true)).heap[D]? = some (.deferred (some [])) := by
      rw [heap_setCell_ne (by show D ≠ W.heap.size + 1 + 1; omega)]
      exact (b5.block _ hKlt).trans hK.out
    have hB6 : Below W.heap.size W (w5.setCell ⟨W.heap.size + 1 + 1, 0, none⟩ (.bool true)) := (hb2A.out.trans (b5.mono hb2A.out.size)).setCell (p := ⟨W.heap.size + 1 + 1, 0, none⟩) (by show W.heap.size ≤ W.heap.size + 1 + 1; omega) _
    refine ⟨by simp, .inl ⟨_, _, rfl, run_takeDeferred hK6, ?_⟩⟩
    have hP := Roll.putObj (D := w3.heap.size) (c := fun _ => False) (.deferred none) hD hK6 rfl
    have cR7 := hP.cell (p := ⟨W.heap.size + 1 + 1, 0, none⟩) (fun h => h) (hR6.cell (o := 0) rfl)
    have hB7 := hP.below (fun _ h => h.elim) (by omega) hB6 (Nat.le_refl _)
    refine ⟨.bool true, by simp [results, Try.results6, go_sem, cR7], ?_⟩
    rw [← hpost.out]
    exact ⟨rfl, hB7⟩
  case stop =>
    rintro D c j pre A hD hc _ ⟨rfl, h1, h2⟩ hK
    go_wp2_with fail
    refine ⟨by simp, .inl ⟨_, _, rfl, run_takeDeferred hK, ?_⟩⟩
    have hP := Roll.putObj (D := w3.heap.size) (c := fun _ => False) (.deferred none) hD hK rfl
    have cR7 := hP.cell (p := ⟨W.heap.size + 1 + 1, 0, none⟩) (fun h => h) h1
    have hB7 := hP.below (fun _ h => h.elim) (by omega) h2 (Nat.le_refl _)
    refine ⟨.bool true, by simp [results, Try.results6, go_sem, cR7], ?_⟩
    rw [← hpost.out]
    exact ⟨rfl, hB7⟩
end Go.Proofs.Ytikjpklbbjmioaa
