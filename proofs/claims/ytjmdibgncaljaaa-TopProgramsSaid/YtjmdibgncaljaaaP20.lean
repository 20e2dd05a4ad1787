/- Programs: the walk of the law (in work). -/
import Derived.Test.YtjmdibgncaljaaaP21
import Derived.Test.YtjmdibgncaljaaaP22
namespace Go.Proofs.Ytjmdibgncaljaaa
open Go.RowKit
theorem iface_run {P : Program} {o : Oper} {ρ : Operand → Value} {w w' : World} {n : Next} {t : TypeId} {x : Operand} (ho : o.op = .makeInterface t x) (hr : (execOp ρ o).run P w = .ok n w') : ∃ v, n = .value v := by
  unfold execOp at hr
  simp only [ho] at hr
  first
    | (rw [Sem.run_bind] at hr; exact andThen_value hr)
    | (simp at hr; exact ⟨_, hr.1.symm⟩)
theorem lex_iface {P : Program} {ops : Array Oper} {C : List Value → World → Prop} {rk : Nat → Option Nat} {lo : Nat → Nat} {Hf : List Value} {b k : Nat} {o : Oper} {rest : List Oper} {a : Act} {Q : Act → Prop} {t : TypeId} {x : Operand} (hb : b ≤ lo k) (hrk : rk k = none) (ho : o.op = .makeInterface t x)
    (h : wpQuiet P ops (clsAt C Hf b) (fun a' => wpLexE P ops C rk lo Hf Q (k + 1) rest a') [o] a) : wpLexE P ops C rk lo Hf Q k (o :: rest) a := by
  unfold wpLexE
  unfold wpQuiet at h
  by_cases hw : Region.wanted o (yielded ops a.tmps) = true
  · simp only [hw, if_true] at h ⊢
    obtain ⟨v, h1, h2⟩ := h
    refine ⟨v, ?_, by simpa [wpQuiet] using h2⟩
    unfold EH
    simp only [hrk]
    intro j w hj hC
    have h3 := h1 w ⟨j, Nat.le_trans hb hj, hC⟩
    unfold Oper.quietAt at h3
    have h4 := fun n w' => iface_run (P := P) (o := o) (ρ := a.eval) (w := w) (w' := w') (n := n) ho
    generalize (execOp a.eval o).run P w = r at *
    cases r with
    | ok n w' =>
      obtain ⟨u, rfl⟩ := h4 n w' rfl
      exact h3
    | halt x w' => exact h3.elim
  · simp only [hw] at h ⊢
    exact ⟨hrk, by simpa [wpQuiet] using h⟩
theorem own_cap {w : World} {e : TypeId} {size n c : Nat} {a : Option Addr} {xs : List Value} (h : w.ownsRow 0 e size (.slice a n c) n xs) : n ≤ c := by
  obtain ⟨_, h2⟩ := h
  rcases h2 with ⟨h3, rfl⟩ | ⟨g, cap, cur, h3, _, _, h4, _⟩
  · exact Nat.zero_le _
  · cases h3; exact h4
theorem rd_takeN {w : World} {a : Option Addr} {n c : Nat} {xs : List Value} (h : Rd w (.slice a n c) n xs) (k m : Nat) (hk : k = 0 → m = 0) (hn : k ≤ n) : Rd w (.slice a k c) k (xs.take m) := by
  obtain ⟨a', cap', he, h2⟩ := h
  cases he
  refine ⟨_, _, rfl, ?_⟩
  by_cases h0 : k = 0
  · exact .inl ⟨h0, by rw [hk h0]; simp⟩
  · rcases h2 with ⟨h3, _⟩ | ⟨b, off, rfl, h3⟩
    · omega
    · refine .inr ⟨b, off, rfl, fun j u hj => h3 j u ?_⟩
      rw [List.getElem?_take] at hj
      split at hj
      · exact hj
      · cases hj
theorem tmod_bounds (x : Int) (n : Nat) : -(n : Int) ≤ x.tmod ((n : Int) + 1) ∧ x.tmod ((n : Int) + 1) ≤ (n : Int) := by
  have h1 : ((n : Int) + 1) > 0 := by omega
  have h2 := Int.tmod_lt_of_pos x h1
  have h3 := Int.tmod_lt_of_pos (-x) h1
  rw [Int.neg_tmod] at h3
  omega
attribute [local go_sem] Oper.semAt_some
set_option maxHeartbeats 4000000 in
set_option maxRecDepth 100000 in
theorem prog_walk (ds : List Di) (hf : ∀ a ∈ ds, a.Fit) (aa : Option Addr) (cap : Nat) (cut : Int) (picks : List Nat) (hpk : ∀ x ∈ picks, x < 256) (pa : Option Addr) (pcap : Nat) (W : World)
    (hr : Rd W (.slice aa ds.length cap) ds.length (diCells ds)) (hll : ds.length ≤ 9223372036854775807) (hcut : -9223372036854775808 ≤ cut ∧ cut ≤ 9223372036854775807)
    (hpr : Rd W (.slice pa picks.length pcap) picks.length (Dev.u8s picks)) (hpl : picks.length ≤ 9223372036854775807) :
    Calls Try.prog 5 #[.slice aa ds.length cap, .int .i64 cut, .slice pa picks.length pcap] W fun e w' => e = .returned (.bool true) ∧ Below W.heap.size W w' := by
  generalize hpost : (fun (e : Ending) w' => e = .returned (.bool true) ∧ Below W.heap.size W w') = post
  replace hpost := Lib.hid hpost
  obtain ⟨W0, hW0⟩ : ∃ W0, W0 = W.alloc (.cells #[.bool false] 4) := ⟨_, rfl⟩
  have hb0 : Below W.heap.size W W0 := by rw [hW0]; exact (Below.refl _ _).alloc (Nat.le_refl _) _
  have hRs : Has W0 W.heap.size [.bool false] 4 := by rw [hW0]; exact Has.new W [.bool false] 4
  have hdp := dprog_any aa cap ds hf W0 (hr.kept hb0) hll
  have hpr0 := hpr.kept hb0
  have hpf : ∀ x ∈ progP ds, x.Fit := fun x hx => by
    obtain ⟨y, hy, rfl⟩ := List.mem_map.1 (List.mem_of_mem_take hx)
    exact Di.fit (hf y hy)
  have hpn : (progP ds).length ≤ 14 := by unfold progP; rw [List.length_take]; omega
  generalize progP ds = ps at *
  obtain ⟨q1, q2⟩ := tmod_bounds cut ps.length
  obtain ⟨m, hm⟩ : ∃ m : Int, cut.tmod ((ps.length : Int) + 1) = m := ⟨_, rfl⟩
  rw [hm] at q1 q2
  obtain ⟨c, hc, hcn⟩ : ∃ c : Nat, (m + (ps.length : Int) + 1).tmod ((ps.length : Int) + 1) = (c : Int) ∧ c ≤ ps.length := by
    have h1 := Int.tmod_nonneg ((ps.length : Int) + 1) (show (0 : Int) ≤ m + (ps.length : Int) + 1 by omega)
    have h2 := Int.tmod_lt_of_pos (m + (ps.length : Int) + 1) (show (0 : Int) < (ps.length : Int) + 1 by omega)
    exact ⟨((m + (ps.length : Int) + 1).tmod ((ps.length : Int) + 1)).toNat, by omega, by omega⟩
  replace hW0 := Lib.hid hW0
  replace hb0 := Lib.hid hb0
  replace hRs := Lib.hid hRs
  replace hpr0 := Lib.hid hpr0
  replace hdp := Lib.hid hdp
  clear hr hpr
  refine calls_of_marks Try.func5 rfl ?_
  simp only [Try.ntmps5, List.size_toArray, List.length_cons, List.length_nil, Nat.reduceAdd, Nat.reduceSub, Array.replicate_succ, Array.replicate_zero, List.push_toArray, List.append_toArray, List.nil_append, List.cons_append]
  go_wp2_with fail
  rw [← hW0.out]
  refine (hdp.out).mono ?_
  rintro e w1 ⟨oa, oc, rfl, hP1⟩
  replace hP1 := Lib.hid hP1
  clear hdp
  have hnd := Dev.new_any w1 (fun _ => none) 0 4 (by decide) (by decide)
  rw [show ((4 : Nat) : Int) = 4 from rfl] at hnd
  replace hnd := Lib.hid hnd
  go_wp2_with fail
  refine hnd.out.mono ?_
  rintro e w2 ⟨L, F, rfl, hD, hE, hB2⟩
  have hr2 := (Rd.of_own hP1.out.o).kept hB2
  have hpc := hP1.out.o
  have hoc : ps.length ≤ oc := own_cap hpc
  have hcI : (c : Int) ≤ (oc : Int) := by omega
  have hrc : Rd w2 (.slice oa (ps.take c).length oc) (ps.take c).length (inCells (ps.take c)) := by
    rw [inCells_take ps c hcn]
    have hl : (ps.take c).length = c := by rw [List.length_take]; omega
    rw [hl]
    exact rd_takeN hr2 c (c * 3) (fun h => by omega) hcn
  have hlc : (ps.take c).length = c := by rw [List.length_take]; omega
  have hsep : ∀ k, Value.ownBlock (.slice oa (ps.take c).length oc) = some k → F k = none := fun k hk => by
    have hk2 : k < w1.heap.size := ownsRow_lt hpc (k := k) (by cases oa with
      | none => cases hk
      | some a => exact hk)
    exact hE k hk2
  have hth := fun wx (hb : Below w2.heap.size w2 wx) => Dev.thread_in (hD.below hb) (t := 0) (by decide)
  have hrun := fun wx (hb : Below w2.heap.size w2 wx) => prun_any (hD.below hb) oa oc (ps.take c) (fun x hx => hpf x (List.mem_of_mem_take hx)) (by omega) (by omega) (hrc.kept hb) hsep
  rw [hlc] at hrun
  replace hth := Lib.hid hth
  have hbr := Below.refl w2.heap.size w2
  replace hrun := Lib.hid hrun
  go_wp2_with fail
  have hrun2 : ∀ wx, Below w2.heap.size w2 wx → Calls Try.prog 32 #[.slice oa c oc, .iface 67 (.pointer (some ⟨L.tb 0, 0, none⟩))] wx fun e w' => ∃ v, e = .returned v ∧ v = .int .i64 0 ∧ ∃ F3, Dev.DevSt w' F3 0 L (2 * c) ((ps.take c).foldl devI (Dev.newP 4)) ∧ Dev.Dstep wx F 0 w' F3 ∧ OkTo 0 (Dev.newP 4) (ps.take c) c := fun wx hb => by
    refine (hrun.out wx hb).mono ?_
    rintro e w' ⟨F3, rfl, h1, h2, h3⟩
    obtain ⟨_, _, h4⟩ := prog_pair (ps.take c) (fun x hx => hpf x (List.mem_of_mem_take hx)) (by omega) (by rw [hlc]; exact h3) c (by omega)
    rw [List.take_take, Nat.min_self] at h4
    refine ⟨_, rfl, by rw [h4]; rfl, F3, by rw [Nat.zero_add] at h1; exact h1, h2, h3⟩
  replace hrun2 := Lib.hid hrun2
  clear hrun
  refine wp_region_call2 7 9 [] [] (C0 := fun w' => w' = w2.drew) (C1 := fun v w' => v = .pointer (some ⟨L.tb 0, 0, none⟩) ∧ w' = w2.drew) (C2 := fun v u w' => v = .pointer (some ⟨L.tb 0, 0, none⟩) ∧ u = .int .i64 0 ∧ ∃ F3, Dev.DevSt w' F3 0 L (2 * c) ((ps.take c).foldl devI (Dev.newP 4)) ∧ Dev.Dstep w2.drew F 0 w' F3 ∧ OkTo 0 (Dev.newP 4) (ps.take c) c)
    (by kernel_rfl) (by kernel_rfl) (by decide) (by decide) (by kernel_rfl) (by kernel_rfl) (by kernel_rfl) rfl (fun wx hx => ?_) (fun v wx hx => ?_) (fun v u hx => ?_)
  · exact ⟨_, _, rfl, hx⟩
  · obtain ⟨rfl, rfl⟩ := hx
    obtain ⟨e, w', v, _, h1, h2⟩ := Calls.ex (hrun2.out _ hbr.drew)
    exact ⟨v, w', rfl, h1, h2⟩
  · obtain ⟨w', rfl, rfl, _⟩ := hx
    refine lex_chunk 0 7 _ _ _ (fun _ _ => Nat.zero_le _) (by kernel_rfl) (fun j hj => by unfold rk2; rw [if_neg (by omega), if_neg (by omega)]) (by decide) ?_
    simp only [List.take_succ_cons, List.take_zero, List.drop_succ_cons, List.drop_zero]
    repeat (first | go_big_quiet_skip | (go_big_quiet_want; go_big_quiet_op; first | go_big_quiet_on | (refine ⟨_, fun _ _ => rfl, ?_⟩; go_big_quiet_on)))
    refine wpQuiet_nil ?_
    refine lex_call (r := 0) (v := .pointer (some ⟨L.tb 0, 0, none⟩)) rfl (by go_simp; exact rfl) rfl (by kernel_rfl) (fun wx hx => ?_) ?_
    · replace hx : wx = w2.drew := hx
      refine callUpon_mk (f := 21) (args := #[.pointer (some ⟨L.g, 0, none⟩), .int .i64 0]) (by simp [go_sem]) ?_
      exact (hth.out wx (by rw [hx]; exact hbr.drew)).mono fun e w'' ⟨he, h1⟩ => ⟨_, he, rfl, h1 ▸ hx⟩
    refine lex_iface (b := 0) (Nat.zero_le _) rfl rfl ?_
    repeat (first | go_big_quiet_skip | (go_big_quiet_want; go_big_quiet_op; first | go_big_quiet_on | (refine ⟨_, fun _ _ => rfl, ?_⟩; go_big_quiet_on)))
    refine wpQuiet_nil ?_
    refine lex_call (r := 1) (v := .int .i64 0) rfl (by go_simp; exact rfl) rfl (by kernel_rfl) (fun wx hx => ?_) ?_
    · obtain ⟨_, rfl⟩ : _ ∧ wx = w2.drew := hx
      refine callUpon_mk (f := 32) (args := #[.slice oa c oc, .iface 67 (.pointer (some ⟨L.tb 0, 0, none⟩))]) (by simp [go_sem]) ?_
      exact (hrun2.out _ hbr.drew).mono fun e w'' ⟨v, he, h1, h2⟩ => ⟨v, he, rfl, h1, h2⟩
    refine lex_chunk 0 2 _ _ _ (fun _ _ => Nat.zero_le _) (by kernel_rfl) (fun j hj => by unfold rk2; rw [if_neg (by omega), if_neg (by omega)]) (by decide) ?_
    simp only [List.take_succ_cons, List.take_zero, List.drop_succ_cons, List.drop_zero]
    repeat (first | go_big_quiet_skip | (go_big_quiet_want; go_big_quiet_op; first | go_big_quiet_on | (refine ⟨_, fun _ _ => rfl, ?_⟩; go_big_quiet_on)))
    refine wpQuiet_nil ?_
    intro w3 hz
    obtain ⟨_, _, F3, hD3, hS3, hK3⟩ := hz
    simp only [Exit.then]
    have hr3 : Rd w3 (.slice oa (ps.take c).length oc) (ps.take c).length (inCells (ps.take c)) := (hrc.kept hbr.drew).only hS3.only (fun k hk ⟨r, s⟩ => by rw [hsep k hk] at s; cases s)
    have hdl := dlines_any oa oc (ps.take c) (fun x hx => hpf x (List.mem_of_mem_take hx)) (by omega) w3 hr3
    rw [hlc] at hdl
    replace hdl := Lib.hid hdl
    replace hD3 := Lib.hid hD3
    replace hK3 := Lib.hid hK3
    clear hth hrun2 hr3
    go_wp2_with fail
    refine hdl.out.mono ?_
    obtain ⟨s, hs⟩ : ∃ s, (ps.take c).foldl lstep lst0 = s := ⟨_, rfl⟩
    rw [hs]
    replace hs := Lib.hid hs
    rintro e w4 ⟨aL, cL, he, hL4⟩
    replace he : e = .returned (.tuple #[.agg #[.slice (aL 0) (s.st 0).length (cL 0), .slice (aL 1) (s.st 1).length (cL 1), .slice (aL 2) (s.st 2).length (cL 2), .slice (aL 3) (s.st 3).length (cL 3)], .agg #[.int .i64 (s.le 0 : Int), .int .i64 (s.le 1 : Int), .int .i64 (s.le 2 : Int), .int .i64 (s.le 3 : Int)]]) := he
    subst he
    obtain ⟨w5, hw5⟩ : ∃ w5, w5 = (w4.alloc (.cells #[.slice (aL 0) (s.st 0).length (cL 0), .slice (aL 1) (s.st 1).length (cL 1), .slice (aL 2) (s.st 2).length (cL 2), .slice (aL 3) (s.st 3).length (cL 3)] 95)).alloc (.cells #[.int .i64 (s.le 0 : Int), .int .i64 (s.le 1 : Int), .int .i64 (s.le 2 : Int), .int .i64 (s.le 3 : Int)] 96) := ⟨_, rfl⟩
    have hB5 : Below w4.heap.size w4 w5 := by rw [hw5]; exact ((Below.refl _ _).alloc (Nat.le_refl _) _).alloc (by simp) _
    have hb10 : Has w5 w4.heap.size (sls s aL cL) 95 := by rw [hw5]; exact (Has.new w4 (sls s aL cL) 95).alloc _
    have hb11 : Has w5 (w4.heap.size + 1) (i4s s.le) 96 := by
      have := Has.new (w4.alloc (.cells #[.slice (aL 0) (s.st 0).length (cL 0), .slice (aL 1) (s.st 1).length (cL 1), .slice (aL 2) (s.st 2).length (cL 2), .slice (aL 3) (s.st 3).length (cL 3)] 95)) (i4s s.le) 96
      rw [World.size_alloc] at this
      rw [hw5]; exact this
    have hmk := make1 (P := Try.prog) 28 5 (.int .u8 0) 1 Try.underlying28 Dev.infoU8 rfl 256 (by omega) (by omega) w5
    rw [show ((256 : Nat) : Int) = 256 from rfl] at hmk
    obtain ⟨w6, hw6⟩ : ∃ w6, w6 = w5.alloc (.cells (Array.replicate 256 (.int .u8 0)) 5) := ⟨_, rfl⟩
    rw [← hw6] at hmk
    have hB6 : Below w5.heap.size w5 w6 := by rw [hw6]; exact (Below.refl _ _).alloc (Nat.le_refl _) _
    have hz0 : Dev.bytesL (List.replicate 32 0) = List.replicate 256 0 := by kernel_rfl
    have hZ6 : Has w6 w5.heap.size (Dev.u8s (Dev.bytesL (List.replicate 32 0))) 5 := by
      rw [hz0, show Dev.u8s (List.replicate 256 0) = List.replicate 256 (.int .u8 0) by simp [Dev.u8s], hw6]
      have := Has.new w5 (List.replicate 256 (.int .u8 0)) 5
      rwa [List.toArray_replicate] at this
    have hin := Dev.inew_any w6 w5.heap.size (Dev.bytesL (List.replicate 32 0)) 4 hZ6 (Dev.bytesL_256 _) (by rw [hz0]; simp) (by decide)
    rw [show (Dev.bytesL (List.replicate 32 0)).length = 256 by rw [hz0]; simp] at hin
    have hs5 : w5.heap.size = w4.heap.size + 1 + 1 := by rw [hw5]; simp
    rw [hs5] at hin
    replace hs5 := Lib.hid hs5
    rw [hw5] at hmk
    replace hL4 := Lib.hid hL4
    replace hw5 := Lib.hid hw5
    clear hdl
    obtain ⟨z0, hz⟩ : ∃ z0, z0 = Dev.strOf (Dev.bytesL (List.replicate 32 0)) := ⟨_, rfl⟩
    unfold Dev.INewPost at hin
    rw [← hz] at hin
    replace hz := Lib.hid hz
    replace hin := Lib.hid hin
    clear hz0 hZ6
    replace hw6 := Lib.hid hw6
    go_wp2_with fail
    refine hin.out.mono ?_
    rintro e w7 ⟨rfl, hB7⟩
    obtain ⟨w8, hw8⟩ : ∃ w8, w8 = w7.alloc (.cells #[.string z0] 53) := ⟨_, rfl⟩
    obtain ⟨w9, hw9⟩ : ∃ w9, w9 = w8.alloc (.cells #[.string z0] 53) := ⟨_, rfl⟩
    have hgn : (runP 4 ((ps.take c).map evI)).G.n = 4 := runP_n 4 _
    obtain ⟨hPair, hPI, _⟩ := prog_pair (ps.take c) (fun x hx => hpf x (List.mem_of_mem_take hx)) (by omega) (by rw [hlc]; exact hK3.out) c (by omega)
    rw [List.take_take, Nat.min_self] at hPair hPI
    rw [hs.out] at hPI
    generalize runP 4 ((ps.take c).map evI) = S at *
    generalize (ps.take c).foldl devI (Dev.newP 4) = R at *
    have hSt : StF s := by rw [← hs.out]; exact StF.fold _ _ StF.init (fun x hx => hpf x (List.mem_of_mem_take hx))
    have hln : ∀ n, (s.st n).length ≤ 14 := fun n => by
      have := (lstep_le (ps.take c) lst0 0 (fun n => ⟨Nat.le_refl _, Nat.le_refl _, Nat.le_refl _⟩) n).1
      rw [hs.out, hlc] at this; omega
    have hlne : ∀ n, s.le n ≤ (s.st n).length := fun n => (hSt.2 n).1
    have hF0 : ∀ k, k < w1.heap.size → F k = none := fun k hk => hE k hk
    have hB02 : Below W0.heap.size W0 w2 := hP1.out.b.trans (hB2.mono hP1.out.b.size)
    have hB23 : Below W0.heap.size w2 w3 := (Only.undrew hS3.only).below hB02.size (fun k hk ⟨r, s⟩ => by
      rcases Nat.lt_or_ge k w1.heap.size with h | h
      · rw [hF0 k h] at s; cases s
      · exact Nat.le_trans hP1.out.b.size h)
    have hB03 := hB02.trans hB23
    have hB04 := hB03.trans (hL4.out.b.mono hB03.size)
    have hB05 := hB04.trans (hB5.mono hB04.size)
    have hB68 : Below w6.heap.size w6 w8 := by rw [hw8]; exact hB7.alloc hB7.size _
    have hB58 : Below w5.heap.size w5 w8 := hB6.trans (hB68.mono hB6.size)
    have hB08 := hB05.trans (hB58.mono hB05.size)
    have hB38 : Below w3.heap.size w3 w8 := (hL4.out.b.trans (hB5.mono hL4.out.b.size)).trans (hB58.mono (Nat.le_trans hL4.out.b.size hB5.size))
    have hs8 : w8.heap.size = w7.heap.size + 1 := by rw [hw8]; simp
    have hZ8 : Has w8 w7.heap.size [.string z0] 53 := by rw [hw8]; exact Has.new w7 [.string z0] 53
    have hY9 : Has w9 (w7.heap.size + 1) [.string (Dev.strOf (Dev.bytesL (preW s (pickF s picks) 0)))] 53 := by
      rw [preW_zero, ← hz.out, ← hs8, hw9]; exact Has.new w8 [.string z0] 53
    have hB89 : Below (w7.heap.size + 1) w8 w9 := by rw [← hs8, hw9]; exact (Below.refl _ _).alloc (Nat.le_refl _) _
    have hce : ∀ wx, Below (w7.heap.size + 1) w8 wx → ∀ n, n < 4 → wx.cell? ⟨w4.heap.size, n, none⟩ = some (.slice (aL n) (s.st n).length (cL n)) ∧ wx.cell? ⟨w4.heap.size + 1, n, none⟩ = some (.int .i64 (s.le n : Int)) ∧ Rd wx (.slice (aL n) (s.st n).length (cL n)) (s.st n).length (wcs (s.st n)) := fun wx hb n hn => by
      have hb5 := hB58.trans ((hs8 ▸ hb).mono hB58.size)
      have o5 := Only.of_below hb5
      exact ⟨(hb10.only o5 (Nat.not_le.2 hb10.lt)).cell (sls_get s aL cL hn), (hb11.only o5 (Nat.not_le.2 hb11.lt)).cell (i4_get s.le hn), (Rd.of_own (hL4.out.o n hn)).kept (hB5.trans (hb5.mono hB5.size))⟩
    have hdpt : ∀ wx, Below (w7.heap.size + 1) w8 wx → ∀ n k ws, n < 4 → k ≤ (s.st n).length → ws.length = 32 → Calls Try.prog 34 #[imgV ws, .slice (aL n) (s.st n).length (cL n), .int .i64 (k : Int)] wx fun e w' => e = .returned (imgV (((s.st n).take k).foldl Dev.setA ws)) ∧ Below wx.heap.size wx w' := fun wx hb n k ws hn hk hw =>
      dput_any wx ws hw (aL n) (cL n) (s.st n) (hce wx hb n hn).2.2 (own_cap (show w4.ownsRow 0 133 2 (.slice (aL n) (s.st n).length (cL n)) (s.st n).length (wcs (s.st n)) from hL4.out.o n hn)) k hk (by have := hln n; omega) (hSt.1 n)
    have hpk8 : ∀ wx, Below (w7.heap.size + 1) w8 wx → Rd wx (.slice pa picks.length pcap) picks.length (Dev.u8s picks) := fun wx hb => (hpr0.out.kept (hB08.trans ((hs8 ▸ hb).mono hB08.size)))
    have hdv8 : ∀ wx, Below (w7.heap.size + 1) w8 wx → Dev.DevSt wx F3 0 L (2 * c) R := fun wx hb => hD3.out.below (hB38.trans ((hs8 ▸ hb).mono hB38.size))
    have hfinb : ∀ wx, Below (w7.heap.size + 1) w8 wx → Below W.heap.size W wx ∧ Below W0.heap.size W0 wx := fun wx hb => ⟨hb0.out.trans ((hB08.trans ((hs8 ▸ hb).mono hB08.size)).mono hb0.out.size), hB08.trans ((hs8 ▸ hb).mono hB08.size)⟩
    replace hw8 := Lib.hid hw8
    replace hw9 := Lib.hid hw9
    replace hce := Lib.hid hce
    replace hdpt := Lib.hid hdpt
    replace hpk8 := Lib.hid hpk8
    replace hdv8 := Lib.hid hdv8
    replace hfinb := Lib.hid hfinb
    replace hs8 := Lib.hid hs8
    replace hZ8 := Lib.hid hZ8
    replace hY9 := Lib.hid hY9
    replace hB89 := Lib.hid hB89
    replace hPair := Lib.hid hPair
    replace hPI := Lib.hid hPI
    replace hgn := Lib.hid hgn
    replace hSt := Lib.hid hSt
    replace hln := Lib.hid hln
    replace hlne := Lib.hid hlne
    replace hlc := Lib.hid hlc
    clear hin hmk hB02 hB23 hB03 hB04 hB05 hB68 hB58 hB08 hB38 hF0 hpc hrc hsep hb10 hb11 hS3 hE hB2 hbr hB6 hB7 hB5 hoc hr2 hcI q1 q2 hD hpf
    go_wp2_with fail
    rw [show (w7.alloc (.cells #[.string z0] 53)).alloc (.cells #[.string z0] 53) = w9 by rw [hw9.out, hw8.out]]
    go_loopw [72] (fun nv wr => ∃ n : Nat, n ≤ 4 ∧ nv = .int .i64 (n : Int) ∧ Below (w7.heap.size + 1) w8 wr ∧ Has wr (w7.heap.size + 1) [.string (Dev.strOf (Dev.bytesL (preW s (pickF s picks) n)))] 53) (fun nv _ => 4 - (intOf nv).toNat)
    case atStart => exact ⟨0, Nat.zero_le _, rfl, hB89.out, hY9.out⟩
    case round =>
      obtain ⟨n, hn4, rfl, hbr, hY⟩ := hrel
      by_cases hlt : n < 4
      · have hnI : decide ((n : Int) < 4) = true := decide_eq_true (by omega)
        obtain ⟨c0, c1, _⟩ := hce.out wr hbr n hlt
        have b0 : (0 : Int) ≤ (n : Int) := by omega
        have b4 : (n : Int) < 4 := by omega
        have hkl := pickF_le picks (hlne.out n)
        have hpre : preW s (pickF s picks) (n + 1) = ((s.st n).take (pickF s picks n)).foldl Dev.setA (preW s (pickF s picks) n) := preW_succ s _ hlt (st_line hPI.out n)
        have hdp := fun wx hb => hdpt.out wx hb n (pickF s picks n) (preW s (pickF s picks) n) hlt hkl.2 (preW_len s _ n)
        rw [← hpre] at hdp
        have hnx : ∀ m w', Below (wr.drewN m).heap.size (wr.drewN m) w' → ∃ n' : Nat, n' ≤ 4 ∧ Value.int .i64 ((n : Int) + 1) = .int .i64 (n' : Int) ∧ Below (w7.heap.size + 1) w8 (w'.setCell ⟨w7.heap.size + 1, 0, none⟩ (.string (Dev.strOf (Dev.bytesL (preW s (pickF s picks) (n + 1)))))) ∧ Has (w'.setCell ⟨w7.heap.size + 1, 0, none⟩ (.string (Dev.strOf (Dev.bytesL (preW s (pickF s picks) (n + 1)))))) (w7.heap.size + 1) [.string (Dev.strOf (Dev.bytesL (preW s (pickF s picks) n')))] 53 := fun m w' hb => by
          have hb2 : Below (w7.heap.size + 1) w8 w' := hbr.trans (((below_drewN (Below.refl wr.heap.size wr) m).trans hb).mono (Nat.le_of_lt hY.lt))
          exact ⟨n + 1, by omega, rfl, hb2.setCell (p := ⟨w7.heap.size + 1, 0, none⟩) (Nat.le_refl _) _, ((hY.drewN m).only (Only.of_below hb) (Nat.not_le.2 hY.lt)).set 0 _⟩
        obtain ⟨im, him⟩ : ∃ im, im = Dev.strOf (Dev.bytesL (preW s (pickF s picks) n)) := ⟨_, rfl⟩
        obtain ⟨im2, him2⟩ : ∃ im2, im2 = Dev.strOf (Dev.bytesL (preW s (pickF s picks) (n + 1))) := ⟨_, rfl⟩
        have cY := hY.cell (o := 0) rfl
        have cYw : ∀ w', Below wr.heap.size wr w' → w'.cell? ⟨w7.heap.size + 1, 0, none⟩ = some (.string im) ∧ w'.frozen? ⟨w7.heap.size + 1, 0, none⟩ = false := fun w' hb => by
          have := hY.only (Only.of_below hb) (Nat.not_le.2 hY.lt)
          exact ⟨by rw [him]; exact this.cell (o := 0) rfl, this.free 0⟩
        unfold imgV at hdp
        rw [← him, ← him2] at hdp
        rw [← him2] at hnx
        rw [← him] at cY
        have fY := hY.free 0
        have hIx : n < picks.length → ∃ pb po, pa = some ⟨pb, po, none⟩ ∧ wr.cell? ⟨pb, po + n, none⟩ = some (.int .u8 ((picks.getD n 0 : Nat) : Int)) := fun h => by
          obtain ⟨pb, po, pc, epa, fpa⟩ := (hpk8.out wr hbr).cells (by omega)
          cases epa
          refine ⟨pb, po, rfl, fpa n _ ?_⟩
          unfold Dev.u8s
          rw [List.getElem?_map, List.getD, List.getElem?_eq_getElem h]; rfl
        have hpu : n < picks.length → picks.getD n 0 < 256 := fun h => hpk _ (by rw [List.getD, List.getElem?_eq_getElem h]; exact List.getElem_mem h)
        have hlnn := hln.out n
        by_cases hp : n < picks.length
        · obtain ⟨pb, po, rfl, cp⟩ := hIx hp
          have hpu := hpu hp
          have hkk : pickF s picks n = s.le n + picks.getD n 0 % ((s.st n).length - s.le n + 1) := by unfold pickF; rw [if_pos hp]
          generalize pickF s picks n = kk at *
          generalize picks.getD n 0 = p at *
          obtain ⟨d, hd⟩ : ∃ d, (s.st n).length = s.le n + d := ⟨(s.st n).length - s.le n, by omega⟩
          rw [hd, Nat.add_sub_cancel_left] at hkk
          obtain ⟨q, hq⟩ : ∃ q, p % (d + 1) = q := ⟨_, rfl⟩
          have hql := Nat.mod_lt p (show 0 < d + 1 by omega)
          rw [hq] at hkk hql
          have e1 : IntKind.i64.wrap (((s.st n).length : Int) - (s.le n : Int)) = (d : Int) := (IntWalk.i64_in _ (by omega)).trans (by omega)
          have e2 : IntKind.i64.wrap ((d : Int) + 1) = (d : Int) + 1 := IntWalk.i64_in _ (by omega)
          have e3 : ((p : Int)).tmod ((d : Int) + 1) = (q : Int) := by
            rw [Int.tmod_eq_emod_of_nonneg (by omega), ← hq]; simp
          have e4 : IntKind.i64.wrap ((s.le n : Int) + (q : Int)) = (kk : Int) := (IntWalk.i64_in _ (by omega)).trans (by omega)
          have e5 : ((d : Int) + 1 == 0) = false := by simp; omega
          have e6 : ¬ ((d : Int) + 1 = 0) := by omega
          have e7 : IntKind.i64.wrap (p : Int) = (p : Int) := IntWalk.i64_in _ (by omega)
          have hpI : decide ((n : Int) < (picks.length : Int)) = true := decide_eq_true (by omega)
          have hpN : decide (n < picks.length) = true := decide_eq_true hp
          have hpB : (n : Int) < (picks.length : Int) := by omega
          replace hd := Lib.hid hd
          replace hq := Lib.hid hq
          replace hkk := Lib.hid hkk
          replace hnx := Lib.hid hnx
          replace hdp := Lib.hid hdp
          replace cYw := Lib.hid cYw
          replace him := Lib.hid him
          replace him2 := Lib.hid him2
          replace hpre := Lib.hid hpre
          replace hbr := Lib.hid hbr
          clear hIx hpu hY hkl hlnn hql
          go_wp2_with fail
          go_quiet (fail)
          clear e1 e2 e3 e4 e5 e6 e7 cp
          go_wp2_with fail
          refine region_tail 5 (by kernel_rfl) (by kernel_rfl) ?_
          simp only [List.take_succ_cons, List.take_zero, List.drop_succ_cons, List.drop_zero]
          repeat still_step
          refine wpStill_nil ?_
          go_wp2_with fail
          refine (hdp.out _ (below_drewN hbr.out _)).mono ?_
          rintro e w' ⟨rfl, hbw⟩
          obtain ⟨cq, fq⟩ := cYw.out w' ((below_drewN (Below.refl wr.heap.size wr) _).trans hbw)
          have hfin := Lib.hid (hnx.out _ w' hbw)
          clear cY fY c0 c1 hbw
          go_wp2_with fail
          exact ⟨hfin.out, by simp [intOf]; omega⟩
        · have hkk : pickF s picks n = s.le n := by unfold pickF; rw [if_neg hp]
          have hpI : decide ((n : Int) < (picks.length : Int)) = false := decide_eq_false (by omega)
          have hpN : decide (n < picks.length) = false := decide_eq_false hp
          rw [hkk] at hdp
          generalize pickF s picks n = kk at *
          replace hkk := Lib.hid hkk
          replace hnx := Lib.hid hnx
          replace hdp := Lib.hid hdp
          replace cYw := Lib.hid cYw
          replace him := Lib.hid him
          replace him2 := Lib.hid him2
          replace hpre := Lib.hid hpre
          replace hbr := Lib.hid hbr
          clear hIx hpu hY hkl hlnn
          go_wp2_with fail
          refine region_tail 5 (by kernel_rfl) (by kernel_rfl) ?_
          simp only [List.take_succ_cons, List.take_zero, List.drop_succ_cons, List.drop_zero]
          repeat still_step
          refine wpStill_nil ?_
          go_wp2_with fail
          refine (hdp.out _ (below_drewN hbr.out _)).mono ?_
          rintro e w' ⟨rfl, hbw⟩
          obtain ⟨cq, fq⟩ := cYw.out w' ((below_drewN (Below.refl wr.heap.size wr) _).trans hbw)
          have hfin := Lib.hid (hnx.out _ w' hbw)
          clear cY fY c0 c1 hbw
          go_wp2_with fail
          exact ⟨hfin.out, by simp [intOf]; omega⟩
      · obtain rfl : n = 4 := by omega
        have hDr := hdv8.out wr hbr
        have hok := hDr.ok
        have h32 := preW_len s (pickF s picks) 4
        have hpre := pre_crash hPair.out hPI.out hgn.out (pickF s picks) (fun l _ => (pickF_le picks (hlne.out l)).1)
        have hposs : Dev.possB R (preW s (pickF s picks) 4) = true := by
          rw [hpre]
          refine Dev.poss_crash hok _ (fun l hl => ?_)
          have h4 : l < 4 := by rw [hPair.out.n, hgn.out] at hl; exact hl
          have h5 := hist_st hPair.out hPI.out hgn.out h4 (hlne.out l)
          have h6 := pickF_le picks (hlne.out l)
          omega
        have hpo := Dev.possible_any hDr (preW s (pickF s picks) 4) 4 h32 (by decide) (preW_lt hSt.out _ 4 (Nat.le_refl _) (fun n hn => st_line hPI.out n))
        rw [hposs] at hpo
        have cY := hY.cell (o := 0) rfl
        have hnI : decide (((4 : Nat) : Int) < 4) = false := by decide
        generalize Dev.strOf (Dev.bytesL (preW s (pickF s picks) 4)) = im at *
        have hcl : R.lines.length = 4 := by rw [hPair.out.n, hgn.out]
        replace hpo := Lib.hid hpo
        replace hDr := Lib.hid hDr
        replace hok := Lib.hid hok
        replace hcl := Lib.hid hcl
        clear hpre hposs h32
        go_wp2_with fail
        refine hpo.out.mono ?_
        rintro e w10 ⟨rfl, hB10⟩
        clear hpo cY
        have hbr10 := hbr.trans (hB10.mono (Nat.le_of_lt hY.lt))
        have hD10 := Lib.hid (hDr.out.below hB10)
        replace hbr10 := Lib.hid hbr10
        replace hB10 := Lib.hid hB10
        go_wp2_with fail
        refine (Dev.call_CAll _ _ _).mono ?_
        rintro e w11 ⟨rfl, hB11, hg1, hg2⟩
        have hz11 := World.block_lt_of_cell? _ _ hg2
        simp only at hz11
        have hD11 := hD10.out.below hB11
        have hbr11 := hbr10.out.trans (hB11.mono (Nat.le_trans (Nat.le_of_lt hY.lt) hB10.out.size))
        have hseq : ∀ Wx, Below w11.heap.size w11 Wx → SeqOwn Fence.wide 2 Try.prog 58 #[.pointer (some ⟨w10.heap.size, 0, none⟩), .pointer (some ⟨w10.heap.size + 1, 0, none⟩)] (fun x : Nat => #[.agg #[.string (Dev.strOf (Dev.atB R x))]]) (fun k => k = w10.heap.size + 1)
            (fun _ pre x _ => x = pre.length ∧ Dev.restR R (Dev.dirtyL R) x = 0) (fun xs => xs.length = min (100 : Int).toNat (Dev.prodL R (Dev.dirtyL R))) (fun _ => True) (100 : Int).toNat Wx := fun Wx hb =>
          Dev.all_own 2 _ _ 100 Wx (by omega) (hD11.below hb) ((hb.cell (World.block_lt_of_cell? _ _ hg1)).trans hg1) ((hb.cell (World.block_lt_of_cell? _ _ hg2)).trans hg2)
        have hs11 := hB11.size
        have hwim : ∀ x : Nat, (Dev.crashW R (Dev.kOf R (Dev.digR R (Dev.dirtyL R) x))).length = 32 ∧ (∀ y ∈ Dev.crashW R (Dev.kOf R (Dev.digR R (Dev.dirtyL R) x)), y < 18446744073709551616) := fun x => ⟨by rw [Dev.crashW_len hok.out, hcl.out], Dev.crashW_lt hok.out _⟩
        have hbase : w7.heap.size + 1 < w10.heap.size := Nat.lt_of_lt_of_le hY.lt hB10.out.size
        replace hseq := Lib.hid hseq
        replace hm := Lib.hid hm
        replace hc := Lib.hid hc
        replace hwim := Lib.hid hwim
        replace hbr11 := Lib.hid hbr11
        clear hg1 hg2 hB11 hD11 hY
        go_wp2_with fail
        refine wp_rangeFunc_rollB (α := Nat) (q := 16) (gf := 58) (lb := #[.pointer (some ⟨w10.heap.size, 0, none⟩), .pointer (some ⟨w10.heap.size + 1, 0, none⟩)]) rfl (enters_of Try.func58 (by kernel_rfl) rfl) (enc := fun x => .agg #[.string (Dev.strOf (Dev.atB R x))]) (r := fun k => k = w10.heap.size + 1) (Giv := fun _ pre x _ => x = pre.length ∧ Dev.restR R (Dev.dirtyL R) x = 0)
          (S := fun xs => xs.length = min (100 : Int).toNat (Dev.prodL R (Dev.dirtyL R))) (Sp := fun _ => True) (N := (100 : Int).toNat) hseq.out (fun k hk => by omega) (fun _ _ _ _ _ _ _ _ _ _ h => h)
          (fun c pre A2 => Below w10.heap.size w11 A2)
          (fun c j pre A2 => False) ?hI2 ?hIx2 (fun c _ => Below.refl _ _) (fun x => [.string (Dev.strOf (Dev.atB R x))]) 53 (fun _ _ _ _ _ h => h) ?assign2 ?body2 ?done2 ?stop2
        case hI2 =>
          rintro c pre A2 E hc q3 hr
          exact hr.below hc (by omega) q3 (by omega)
        case hIx2 =>
          intro c j pre A2 E hc h
          exact h.elim
        case assign2 =>
          intro l x A2 K hK
          gi_wp2
          exact hK
        case stop2 =>
          rintro D2 c j pre A2 hD2 hc _ h hK2
          exact h.elim
        case body2 =>
          rintro l c pre x b A2 hc hb hbx q3 ⟨rfl, hrz⟩ hlen
          obtain ⟨hw32, hwlt⟩ := hwim.out pre.length
          have hhit : ∀ n, n < 4 → ∃ k0, s.le n ≤ k0 ∧ k0 ≤ (s.st n).length ∧ okW s n k0 (Dev.crashW R (Dev.kOf R (Dev.digR R (Dev.dirtyL R) pre.length))) 8 = true := fun n hn =>
            ⟨s.le n + Dev.kOf R (Dev.digR R (Dev.dirtyL R) pre.length) n, by omega, by
              have h1 := kOf_le R pre.length n (by rw [hcl.out]; exact hn)
              have h2 := hist_st hPair.out hPI.out hgn.out hn (hlne.out n)
              omega, okW_hit hPair.out hPI.out hgn.out _ hn⟩
          have hatb : Dev.atB R pre.length = Dev.bytesL (Dev.crashW R (Dev.kOf R (Dev.digR R (Dev.dirtyL R) pre.length))) := rfl
          rw [hatb] at hbx ⊢
          clear hatb
          generalize Dev.crashW R (Dev.kOf R (Dev.digR R (Dev.dirtyL R) pre.length)) = ws at *
          have hbrA : Below (w7.heap.size + 1) w8 A2 := hbr11.out.trans (q3.mono (by omega))
          have hA2s := hbrA.size
          have hA28 : w7.heap.size + 1 ≤ A2.heap.size := by have := q3.size; omega
          have hcA : ∀ wx, Below A2.heap.size A2 wx → ∀ n, n < 4 → wx.cell? ⟨w4.heap.size, n, none⟩ = some (.slice (aL n) (s.st n).length (cL n)) ∧ wx.cell? ⟨w4.heap.size + 1, n, none⟩ = some (.int .i64 (s.le n : Int)) ∧ wx.cell? ⟨w7.heap.size, 0, none⟩ = some (.string z0) ∧ wx.cell? ⟨b, 0, none⟩ = some (.string (Dev.strOf (Dev.bytesL ws))) := fun wx hx n hn => by
            have h8 := hbrA.trans (hx.mono hA28)
            obtain ⟨g1, g2, _⟩ := hce.out wx h8 n hn
            exact ⟨g1, g2, (hZ8.out.only (Only.of_below h8) (by omega)).cell (o := 0) rfl, (hbx.only (Only.of_below hx) (Nat.not_le.2 hbx.lt)).cell (o := 0) rfl⟩
          have hdA : ∀ wx, Below A2.heap.size A2 wx → ∀ n k, n < 4 → k ≤ (s.st n).length → Calls Try.prog 34 #[.agg #[.string z0], .slice (aL n) (s.st n).length (cL n), .int .i64 (k : Int)] wx fun e w' => e = .returned (imgV (putK s n k)) ∧ Below wx.heap.size wx w' := fun wx hx n k hn hk => by
            rw [hz.out]
            exact hdpt.out wx (hbrA.trans (hx.mono hA28)) n k (List.replicate 32 0) hn hk (by simp)
          have hkeep : ∀ wz, Below A2.heap.size A2 wz → KeepsFrom w11.heap.size A2 wz ∧ KeepB (fun k => c k ∨ k = w10.heap.size + 1) A2 wz ∧ Below w10.heap.size w11 wz := fun wz hx =>
            ⟨⟨hx.size, fun k o _ hk _ => (hx.block k (Array.getElem?_eq_some_iff.1 hk).1).trans hk⟩, KeepB.of_below hx (Nat.le_refl _), q3.trans (hx.mono (by have := q3.size; omega))⟩
          replace hcA := Lib.hid hcA
          replace hdA := Lib.hid hdA
          replace hkeep := Lib.hid hkeep
          replace hhit := Lib.hid hhit
          replace hw32 := Lib.hid hw32
          replace hwlt := Lib.hid hwlt
          replace hrz := Lib.hid hrz
          clear hbx q3 hseq
          gi_wp2_with fail
          gi_loopw [113] (fun nv wr => ∃ n : Nat, n ≤ 4 ∧ nv = .int .i64 (n : Int) ∧ Below A2.heap.size A2 wr) (fun nv _ => 4 - (intOf nv).toNat)
          case atStart => exact ⟨0, Nat.zero_le _, rfl, Below.refl _ _⟩
          case round =>
            obtain ⟨n, hn4, rfl, hbo⟩ := hrel
            obtain ⟨wo, rfl⟩ : ∃ wo : World, wo = wr := ⟨_, rfl⟩
            by_cases hlt : n < 4
            · have hnI : decide ((n : Int) < 4) = true := decide_eq_true (by omega)
              have b0 : (0 : Int) ≤ (n : Int) := by omega
              have b4 : (n : Int) < 4 := by omega
              obtain ⟨k0, hk01, hk02, hk03⟩ := hhit.out n hlt
              obtain ⟨_, c1, _⟩ := hcA.out wo hbo n hlt
              have hlnn := hln.out n
              replace hk03 := Lib.hid hk03
              replace hbo := Lib.hid hbo
              gi_wp2_with fail
              clear c1
              gi_loopw [18, 19] (fun ov kv wr => ∃ (k : Nat) (ok : Bool), kv = .int .i64 (k : Int) ∧ ov = .bool ok ∧ Below A2.heap.size A2 wr ∧ s.le n ≤ k ∧ (ok = false → k ≤ k0) ∧ k ≤ (s.st n).length + 1) (fun _ kv _ => (s.st n).length + 1 - (intOf kv).toNat)
              case atStart => exact ⟨s.le n, false, rfl, rfl, hbo.out, Nat.le_refl _, fun _ => hk01, by omega⟩
              case round =>
                obtain ⟨k, ok, rfl, rfl, hbk, hk1, hk2, hk3⟩ := hrel
                have hlenI : ∀ bq : Bool, decide (k ≤ (s.st n).length) = bq → decide ((k : Int) ≤ ((s.st n).length : Int)) = bq := fun bq h => by
                  rw [← h]; exact decide_eq_decide.2 (by omega)
                obtain ⟨c0, _, cz, cb⟩ := hcA.out wr hbk n hlt
                cases ok with
                | true =>
                  have hbk' := Lib.hid hbk
                  clear hk2 hbk cz cb
                  by_cases hkl : k ≤ (s.st n).length
                  · have hdN : decide (k ≤ (s.st n).length) = true := decide_eq_true hkl
                    have hdI := hlenI _ hdN
                    clear hlenI
                    gi_wp2_with fail
                    exact ⟨⟨n + 1, by omega, rfl, hbk'.out⟩, by simp [intOf]; omega⟩
                  · have hdN : decide (k ≤ (s.st n).length) = false := decide_eq_false hkl
                    have hdI := hlenI _ hdN
                    clear hlenI
                    gi_wp2_with fail
                    exact ⟨⟨n + 1, by omega, rfl, hbk'.out⟩, by simp [intOf]; omega⟩
                | false =>
                  have hkk := hk2 rfl
                  have hkl : k ≤ (s.st n).length := by omega
                  have hdN : decide (k ≤ (s.st n).length) = true := decide_eq_true hkl
                  have hdI := hlenI _ hdN
                  have hcW : ∀ wx, Below wr.heap.size wr wx → wx.cell? ⟨w4.heap.size, n, none⟩ = some (.slice (aL n) (s.st n).length (cL n)) ∧ wx.cell? ⟨w7.heap.size, 0, none⟩ = some (.string z0) ∧ wx.cell? ⟨b, 0, none⟩ = some (.string (Dev.strOf (Dev.bytesL ws))) := fun wx hx => by
                    obtain ⟨g0, _, g1, g2⟩ := hcA.out wx (hbk.trans (hx.mono hbk.size)) n hlt
                    exact ⟨g0, g1, g2⟩
                  have hdW := fun wx (hx : Below wr.heap.size wr wx) => hdA.out wx (hbk.trans (hx.mono hbk.size)) n k hlt hkl
                  replace hcW := Lib.hid hcW
                  replace hdW := Lib.hid hdW
                  replace hbk := Lib.hid hbk
                  clear hlenI hk2 cz cb
                  gi_wp2_with fail
                  clear c0
                  refine wpIn_region_part (fun _ => trivial) (fun h => (by cases h)) (fun f args w R c => CallsIn.inRound l (callsIn_wide.2 c)) [5, 6, 7] [[], [], [0, 1]] [] (PutC wr (imgV (putK s n k)) (Dev.strOf (Dev.bytesL (putK s n k)))) (by kernel_rfl) (by kernel_rfl) (by kernel_rfl) ?hnd (PutC.start _ _ _) PutC.ex (fun Hf hx => ?_)
                  case hnd =>
                    intro i o ho c'
                    match i with
                    | 0 | 1 | 2 | 3 | 4 | 5 | 6 | 7 => simp at ho; subst ho; simp
                    | i + 8 => simp at ho
                  obtain ⟨w', hx⟩ := hx
                  obtain ⟨v0e, v2e, bx, v1e, _⟩ := hx.done
                  refine part_chunk [] 5 0 _ _ (by kernel_rfl) (by kernel_rfl) (by decide) ?_
                  simp only [List.take_succ_cons, List.take_zero, List.drop_succ_cons, List.drop_zero]
                  go_big_quiet_want
                  go_big_quiet_op
                  refine ⟨.agg #[.string z0], fun wx hx => by simp [go_sem, (hcW.out wx (PutC.at hx)).2.1], ?_⟩
                  go_big_quiet_on
                  iterate 2 (go_big_quiet_want; go_big_quiet_op; first | go_big_quiet_on | (refine ⟨_, fun _ _ => rfl, ?_⟩; go_big_quiet_on))
                  go_big_quiet_want
                  go_big_quiet_op
                  refine ⟨.slice (aL n) (s.st n).length (cL n), fun wx hx => by simp [go_sem, (hcW.out wx (PutC.at hx)).1], ?_⟩
                  go_big_quiet_on
                  iterate 1 (go_big_quiet_want; go_big_quiet_op; first | go_big_quiet_on | (refine ⟨_, fun _ _ => rfl, ?_⟩; go_big_quiet_on))
                  refine wpQuiet_nil ?_
                  refine part_step (s := 0) v0e (by go_simp; exact rfl) (by kernel_rfl) (by kernel_rfl) (fun H wx hs hn hp hc => ?_) ?_
                  · refine callUpon_mk (f := 34) (args := #[.agg #[.string z0], .slice (aL n) (s.st n).length (cL n), .int .i64 (k : Int)]) (by simp [go_sem]) ?_
                    exact (hdW.out wx hc.b).mono fun e w'' ⟨he, h2⟩ => ⟨_, he, hc.call h2⟩
                  refine part_step (s := 1) v1e (by go_simp; exact rfl) (by kernel_rfl) (by kernel_rfl) (fun H wx hs hn hp hc => ?_) ?_
                  · exact callUpon_value (by simp [go_sem]) (hc.new hn)
                  refine part_step (s := 2) v2e (by go_simp; exact rfl) (by kernel_rfl) (by kernel_rfl) (fun H wx hs hn hp hc => ?_) ?_
                  · have h2 : H 1 = some (.pointer (some ⟨bx, 0, none⟩)) := by
                      obtain ⟨x, hx⟩ := Option.isSome_iff_exists.1 (hp 1 (by simp))
                      rw [hx, ← v1e, hs 1 x hx]
                    obtain ⟨b', g1, g2, g3⟩ := hc.c1 _ h2
                    cases g1
                    have g4 := g3.cell (o := 0) rfl
                    have g5 := g3.free 0
                    exact callUpon_skip (by simp [go_sem, g4, g5]) (hc.lay h2)
                  unfold wpLexP
                  intro wz hz
                  obtain ⟨_, _, b2, e2b, hb2, hBx, hBz⟩ := hz.done
                  rw [v1e] at e2b
                  cases e2b
                  have hzx : Below A2.heap.size A2 wz := hbk.out.trans (hBz.mono hbk.out.size)
                  have hiw : ∀ wx (us : List Nat) (j : Nat), us.length = 32 → (∀ x ∈ us, x < 18446744073709551616) → j < 8 → Calls Try.prog 35 #[imgV us, .int .u64 (64 * (n : Int) + 8 * (j : Int))] wx fun e w' => e = .returned (.tuple #[.int .u64 ((us.getD (8 * n + j) 0 : Nat) : Int), .int .i64 0]) ∧ Below wx.heap.size wx w' := fun wx us j hl hlt2 hj => by
                    have h := iword_any wx us (64 * n + 8 * j) (by omega) (by omega) hl hlt2
                    rw [show (64 * n + 8 * j) / 8 = 8 * n + j by omega, show ((64 * n + 8 * j : Nat) : Int) = 64 * (n : Int) + 8 * (j : Int) by omega] at h
                    exact h
                  have hcZ : ∀ wx, Below wz.heap.size wz wx → wx.cell? ⟨b, 0, none⟩ = some (.string (Dev.strOf (Dev.bytesL ws))) ∧ wx.cell? ⟨bx, 0, none⟩ = some (.string (Dev.strOf (Dev.bytesL (putK s n k)))) := fun wx hx =>
                    ⟨(hcW.out wx (hBz.trans (hx.mono hBz.size))).2.2, (hBx.only (Only.of_below hx) (Nat.not_le.2 hBx.lt)).cell (o := 0) rfl⟩
                  have hpl := putK_len s n k
                  have hplt := putK_lt hSt.out n k
                  obtain ⟨wq, rfl⟩ : ∃ wq : World, wq = wr := ⟨_, rfl⟩
                  have ht0 : Value.int .u64 (64 * (n : Int)) = Value.int .u64 (64 * (n : Int) + 8 * ((0 : Nat) : Int)) := by simp
                  replace hzx := Lib.hid hzx
                  replace hiw := Lib.hid hiw
                  replace hcZ := Lib.hid hcZ
                  replace hpl := Lib.hid hpl
                  replace hplt := Lib.hid hplt
                  replace ht0 := Lib.hid ht0
                  clear hcW hdW hBx hBz v0e v1e v2e hx hz hdN hdI
                  gi_wp2_with fail
                  gi_loopw [18, 21] (fun ov fv wr => ∃ j : Nat, j ≤ 8 ∧ fv = .int .u64 (64 * (n : Int) + 8 * (j : Int)) ∧ ov = .bool (okW s n k ws j) ∧ Below wz.heap.size wz wr) (fun _ fv _ => (64 * (n : Int) + 64 - intOf fv).toNat)
                  case atStart => exact ⟨0, Nat.zero_le _, ht0.out, rfl, Below.refl _ _⟩
                  case round =>
                    obtain ⟨j, hj8, rfl, rfl, hbj⟩ := hrel
                    have hjl := hj8
                    by_cases hj : j < 8
                    · have hd4 : decide (64 * (n : Int) + 8 * (j : Int) < 64 * (n : Int) + 64) = true := decide_eq_true (by omega)
                      obtain ⟨cb, cx⟩ := hcZ.out wr hbj
                      have hok1 := okW_succ s n k ws j
                      have hi1 := fun wx => hiw.out wx (putK s n k) j hpl.out hplt.out hj
                      have hi2 := fun wx => hiw.out wx ws j hw32.out hwlt.out hj
                      obtain ⟨x1, hx1⟩ : ∃ x1, (putK s n k).getD (8 * n + j) 0 = x1 := ⟨_, rfl⟩
                      obtain ⟨x2, hx2⟩ : ∃ x2, ws.getD (8 * n + j) 0 = x2 := ⟨_, rfl⟩
                      rw [hx1] at hi1 hok1
                      rw [hx2] at hi2 hok1
                      obtain ⟨ok4, hok4⟩ : ∃ ok4, okW s n k ws j = ok4 := ⟨_, rfl⟩
                      rw [hok4] at hok1 ⊢
                      obtain ⟨im1, him1⟩ : ∃ im1, im1 = Dev.strOf (Dev.bytesL (putK s n k)) := ⟨_, rfl⟩
                      obtain ⟨im2, him2⟩ : ∃ im2, im2 = Dev.strOf (Dev.bytesL ws) := ⟨_, rfl⟩
                      unfold imgV at hi1 hi2
                      rw [← him1] at hi1 cx
                      rw [← him2] at hi2 cb
                      have hcb2 : ∀ w', Below wr.heap.size wr w' → w'.cell? ⟨b, 0, none⟩ = some (.string im2) := fun w' hb => by
                        rw [him2]; exact (hcZ.out w' (hbj.trans (hb.mono hbj.size))).1
                      replace hx1 := Lib.hid hx1
                      replace hx2 := Lib.hid hx2
                      replace hok4 := Lib.hid hok4
                      replace him1 := Lib.hid him1
                      replace him2 := Lib.hid him2
                      replace hi1 := Lib.hid hi1
                      replace hi2 := Lib.hid hi2
                      replace hcb2 := Lib.hid hcb2
                      replace hbj := Lib.hid hbj
                      clear cb
                      cases ok4 with
                      | true =>
                        by_cases he : x1 = x2
                        · have he1 : ((x1 : Int) == (x2 : Int)) = true := by simp; omega
                          have hok2 : okW s n k ws (j + 1) = true := by rw [hok1]; simp [he]
                          replace hok2 := Lib.hid hok2
                          replace he := Lib.hid he
                          clear hok1
                          gi_wp2_with fail
                          refine ⟨trivial, ?_⟩
                          refine (CallsIn.inRound l (callsIn_wide.2 (hi1.out _))).mono ?_
                          rintro e w1' ⟨rfl, hb1⟩
                          have cb2 := hcb2.out _ hb1
                          have hb1 := Lib.hid hb1
                          clear cx
                          gi_wp2_with fail
                          refine ⟨trivial, ?_⟩
                          refine (CallsIn.inRound l (callsIn_wide.2 (hi2.out _))).mono ?_
                          rintro e w2' ⟨rfl, hb2⟩
                          have hbn := Lib.hid (hbj.out.trans ((hb1.out.trans (hb2.mono hb1.out.size)).mono hbj.out.size))
                          clear cb2 hb2
                          gi_wp2_with fail
                          exact ⟨⟨j + 1, by omega, by congr 1 <;> omega, by rw [hok2.out], hbn.out⟩, by simp [intOf]; omega⟩
                        · have he1 : ((x1 : Int) == (x2 : Int)) = false := by simp; omega
                          have hok2 : okW s n k ws (j + 1) = false := by rw [hok1]; simp [he]
                          replace hok2 := Lib.hid hok2
                          replace he := Lib.hid he
                          clear hok1
                          gi_wp2_with fail
                          refine ⟨trivial, ?_⟩
                          refine (CallsIn.inRound l (callsIn_wide.2 (hi1.out _))).mono ?_
                          rintro e w1' ⟨rfl, hb1⟩
                          have cb2 := hcb2.out _ hb1
                          have hb1 := Lib.hid hb1
                          clear cx
                          gi_wp2_with fail
                          refine ⟨trivial, ?_⟩
                          refine (CallsIn.inRound l (callsIn_wide.2 (hi2.out _))).mono ?_
                          rintro e w2' ⟨rfl, hb2⟩
                          have hbn := Lib.hid (hbj.out.trans ((hb1.out.trans (hb2.mono hb1.out.size)).mono hbj.out.size))
                          clear cb2 hb2
                          gi_wp2_with fail
                          exact ⟨⟨j + 1, by omega, by congr 1 <;> omega, by rw [hok2.out], hbn.out⟩, by simp [intOf]; omega⟩
                      | false =>
                        have hok2 : okW s n k ws (j + 1) = false := by rw [hok1]; simp
                        replace hok2 := Lib.hid hok2
                        clear hok1
                        gi_wp2_with fail
                        refine ⟨trivial, ?_⟩
                        refine (CallsIn.inRound l (callsIn_wide.2 (hi1.out _))).mono ?_
                        rintro e w1' ⟨rfl, hb1⟩
                        have cb2 := hcb2.out _ hb1
                        have hb1 := Lib.hid hb1
                        clear cx
                        gi_wp2_with fail
                        refine ⟨trivial, ?_⟩
                        refine (CallsIn.inRound l (callsIn_wide.2 (hi2.out _))).mono ?_
                        rintro e w2' ⟨rfl, hb2⟩
                        have hbn := Lib.hid (hbj.out.trans ((hb1.out.trans (hb2.mono hb1.out.size)).mono hbj.out.size))
                        clear cb2 hb2
                        gi_wp2_with fail
                        exact ⟨⟨j + 1, by omega, by congr 1 <;> omega, by rw [hok2.out], hbn.out⟩, by simp [intOf]; omega⟩
                    · obtain rfl : j = 8 := by omega
                      have hd4 : decide (64 * (n : Int) + 8 * ((8 : Nat) : Int) < 64 * (n : Int) + 64) = false := decide_eq_false (by omega)
                      have hbn := Lib.hid (hzx.out.trans (hbj.mono hzx.out.size))
                      have hk2n : okW s n k ws 8 = false → k + 1 ≤ k0 := fun h => by
                        rcases Nat.lt_or_ge k k0 with h1 | h1
                        · omega
                        · obtain rfl : k = k0 := by omega
                          rw [hk03.out] at h; cases h
                      generalize okW s n k ws 8 = ok8 at *
                      replace hk2n := Lib.hid hk2n
                      clear hbj
                      gi_wp2_with fail
                      exact ⟨⟨k + 1, ok8, rfl, rfl, hbn.out, by omega, hk2n.out, by omega⟩, by simp [intOf]; omega⟩
            · obtain rfl : n = 4 := by omega
              have hnI : decide (((4 : Nat) : Int) < 4) = false := by decide
              have hfin := Lib.hid (hkeep.out wo hbo)
              clear hbo
              gi_wp2_with fail
              exact hfin.out
        case done2 =>
          rintro D2 c xs2 A2 hD2 hc hS2 q3 hK2
          obtain ⟨hBW, hB0A⟩ := hfinb.out A2 (hbr11.out.trans (q3.mono (by omega)))
          have hRtA := hRs.out.only (Only.of_below hB0A) (Nat.not_le.2 hRs.out.lt)
          have fRA := hRtA.free 0
          have cRA := hRtA.cell (o := 0) rfl
          have hR7 := hRtA.set 0 (.bool true)
          have hlW := hRs.out.lt
          have h011 := (hfinb.out w11 hbr11.out).2.size
          have hne82 : D2 ≠ W.heap.size := by omega
          have hK6 : (A2.setCell ⟨W.heap.size, 0, none⟩ (.bool true)).heap[D2]? = some (.deferred (some [])) := by
            rw [heap_setCell_ne (by show D2 ≠ W.heap.size; exact hne82)]; exact hK2
          have hB6 : Below W.heap.size W (A2.setCell ⟨W.heap.size, 0, none⟩ (.bool true)) := hBW.setCell (p := ⟨W.heap.size, 0, none⟩) (Nat.le_refl _) _
          have hP1 := Roll.putObj (D := w11.heap.size) (c := fun _ => False) (.deferred none) hD2 hK6 rfl
          have cR8 := hP1.cell (p := ⟨W.heap.size, 0, none⟩) (fun h => h) (hR7.cell (o := 0) rfl)
          have hB7 := hP1.below (fun _ h => h.elim) (by omega) hB6 (Nat.le_refl _)
          replace hK6 := Lib.hid hK6
          replace cR8 := Lib.hid cR8
          replace hB7 := Lib.hid hB7
          replace hS2 := Lib.hid hS2
          clear hP1 hR7 hB6 hK2 hBW hRtA hB0A
          go_wp2_with fail
          refine ⟨by simp, .inl ⟨_, _, rfl, run_takeDeferred hK6.out, ?_⟩⟩
          refine ⟨.bool true, by simp [results, Try.results5, go_sem, cR8.out], ?_⟩
          rw [← hpost.out]
          exact ⟨rfl, hB7.out⟩
end Go.Proofs.Ytjmdibgncaljaaa
