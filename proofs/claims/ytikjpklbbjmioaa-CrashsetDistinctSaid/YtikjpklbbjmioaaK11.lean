/- CrashsetCounts: the walk. -/
import Derived.Test.YtikjpklbbjmioaaK13
import Derived.Test.YtikjpklbbjmioaaQRI
import Derived.BigQuiet
namespace Go.Proofs.Ytikjpklbbjmioaa
open Go.RowKit Go.Maps Go.BigFrame
variable {w : World} {F : Own} {o o' h T : Nat} {R : Dv} {L : Lay}

theorem cntV_pos (R : Dv) : 1 ≤ (cntV R).1 ∧ (cntV R).1 ≤ 4611686018427387904 := by
  have := prodL_pos R (dirtyL R)
  unfold cntV
  split <;> simp <;> omega
variable {wx : World} {B : Nat}
theorem Two.r5count (hp : Two w B L h T R wx) : Calls Try.prog 20 #[.pointer (some ⟨h, 0, none⟩)] wx fun e w' => e = .returned (.tuple #[.int .u64 (((cntV R).1 : Nat) : Int), .bool (cntV R).2]) ∧ Two w B L h T R w' := by
  obtain ⟨F, h1, h2, h3⟩ := hp.ex
  exact (rcount_any h2).mono fun e w' ⟨he, hb⟩ => ⟨he, hp.below hb⟩
theorem Two.ccount (hp : Two w B L h T R wx) : Calls Try.prog 21 #[.pointer (some ⟨L.g, 0, none⟩)] wx fun e w' => e = .returned (.tuple #[.int .u64 (((cntV R).1 : Nat) : Int), .bool (cntV R).2]) ∧ Two w B L h T R w' := by
  obtain ⟨F, h1, h2, h3⟩ := hp.ex
  exact (ccount_any h1).mono fun e w' ⟨he, hb⟩ => ⟨he, hp.below hb⟩
theorem Two.r5at (hp : Two w B L h T R wx) (n : Nat) (hn : n < 18446744073709551616) : Calls Try.prog 22 #[.pointer (some ⟨h, 0, none⟩), .int .u64 (n : Int)] wx (RAtPost wx R n) := by
  obtain ⟨F, h1, h2, h3⟩ := hp.ex
  exact rat_any h2 n hn
theorem Two.cat (hp : Two w B L h T R wx) (n : Nat) (hn : n < 18446744073709551616) : Calls Try.prog 23 #[.pointer (some ⟨L.g, 0, none⟩), .int .u64 (n : Int)] wx (AtPost wx R n) := by
  obtain ⟨F, h1, h2, h3⟩ := hp.ex
  exact at_any h1 n hn
def counts4 (n c : Nat) : List Nat := [n, n % c, c, c - 1]
set_option maxHeartbeats 8000000 in
set_option maxRecDepth 100000 in
theorem counts_walk (W : World) (lines : Int) (a : Option Addr) (c : Nat) (xs : List Evt) (hr : RunIn W lines a c xs) (n : Nat) (hn : n < 18446744073709551616) :
    Calls Try.prog 5 #[.agg #[.int .i64 lines, .slice a xs.length c], .int .u64 (n : Int)] W fun e w' => e = .returned (.bool true) ∧ Below W.heap.size W w' := by
  have hb1 : Below W.heap.size W (W.alloc (.cells #[.int .i64 lines, .slice a xs.length c] 54)) := (Below.refl _ _).alloc (Nat.le_refl _) _
  have hpl := play5_any hr hb1
  generalize playP (newP (nLines lines)) (xs.take 30) = R at *
  have c0 := (Has.new W [.int .i64 lines, .slice a xs.length c] 54).cell (o := 0) rfl
  have c1 := (Has.new W [.int .i64 lines, .slice a xs.length c] 54).cell (o := 1) rfl
  obtain ⟨hk1, hk2⟩ := cntV_pos R
  replace hpl := Lib.hid hpl
  replace hb1 := Lib.hid hb1
  clear hr
  go_enter Try.func5, Try.ntmps5
  go_wp2_with fail
  refine hpl.out.mono ?_
  rintro e w1 ⟨L, h, rfl, t1⟩
  have b1 : ∀ wx, Two (W.alloc (.cells #[.int .i64 lines, .slice a xs.length c] 54)) (W.alloc (.cells #[.int .i64 lines, .slice a xs.length c] 54)).heap.size L h 60 R wx → Below W.heap.size W wx := fun wx hp => hb1.out.trans (hp.b.mono hb1.out.size)
  generalize (W.alloc (.cells #[.int .i64 lines, .slice a xs.length c] 54)).heap.size = B at *
  generalize W.alloc (.cells #[.int .i64 lines, .slice a xs.length c] 54) = W0 at *
  have q1 := t1.r5count
  have q2 := fun wx (hp : Two W0 B L h 60 R wx) => hp.ccount
  have q3 := fun wx (hp : Two W0 B L h 60 R wx) x hx => hp.r5at x hx
  have q4 := fun wx (hp : Two W0 B L h 60 R wx) x hx => hp.cat x hx
  have q5 := fun wx (hp : Two W0 B L h 60 R wx) => hp.same
  obtain ⟨cn, hcn⟩ : ∃ cn, cn = (cntV R).1 := ⟨_, rfl⟩
  obtain ⟨cs, hcs⟩ : ∃ cs, cs = (cntV R).2 := ⟨_, rfl⟩
  rw [← hcn] at hk1 hk2
  rw [← hcn, ← hcs] at q1
  simp only [← hcn, ← hcs] at q2
  replace hcn := Lib.hid hcn
  replace hcs := Lib.hid hcs
  replace q1 := Lib.hid q1
  replace q2 := Lib.hid q2
  replace q3 := Lib.hid q3
  replace q4 := Lib.hid q4
  replace q5 := Lib.hid q5
  replace b1 := Lib.hid b1
  clear hpl hb1 c0 c1 t1
  go_wp2_with fail
  refine q1.out.mono ?_
  rintro e w2 ⟨rfl, t2⟩
  clear q1
  go_wp2_with fail
  refine (q2.out _ t2).mono ?_
  rintro e w3 ⟨rfl, t3⟩
  clear q2 t2
  have e0 : ((cn : Int) == 0) = false := beq_eq_false_iff_ne.2 (by omega)
  have e1 : ¬ (cn : Int) = 0 := by omega
  have e2 : (n : Int) % (cn : Int) = ((n % cn : Nat) : Int) := by simp
  have e3 : ((cn - 1 : Nat) : Int) = (cn : Int) - 1 := by omega
  have hml : n % cn < 18446744073709551616 := by have := Nat.mod_le n cn; omega
  obtain ⟨md, hmd⟩ : ∃ md, md = n % cn := ⟨_, rfl⟩
  rw [← hmd] at hml e2
  have e4 : 0 ≤ (n : Int) % (cn : Int) ∧ (n : Int) % (cn : Int) < 18446744073709551616 := by rw [e2]; omega
  replace e2 := Lib.hid e2
  replace e3 := Lib.hid e3
  replace hmd := Lib.hid hmd
  obtain ⟨cs4, hcs4⟩ : ∃ cs4, cs4 = [n, md, cn, cn - 1] := ⟨_, rfl⟩
  have hcv : u64s cs4 = [.int .u64 (n : Int), .int .u64 ((n : Int) % (cn : Int)), .int .u64 (cn : Int), .int .u64 ((cn : Int) - 1)] := by rw [hcs4, e2.out, ← e3.out]; rfl
  have hNew := Has.new w3 (u64s cs4) 22
  rw [hcv] at hNew
  have t4 := t3.alloc (.cells #[.int .u64 (n : Int), .int .u64 ((n : Int) % (cn : Int)), .int .u64 (cn : Int), .int .u64 ((cn : Int) - 1)] 22)
  have hget : ∀ k, k < 4 → cs4[k]? = some (cs4.getD k 0) ∧ cs4.getD k 0 < 18446744073709551616 := fun k hk => by
    subst hcs4
    match k, hk with
    | 0, _ => exact ⟨rfl, hn⟩
    | 1, _ => exact ⟨rfl, hml⟩
    | 2, _ => exact ⟨rfl, show cn < _ by omega⟩
    | 3, _ => exact ⟨rfl, show cn - 1 < _ by omega⟩
  obtain ⟨N, hN⟩ : ∃ N : Nat, N = 4 := ⟨_, rfl⟩
  rw [← hN] at hget
  replace hN := Lib.hid hN
  replace hget := Lib.hid hget
  replace hcv := Lib.hid hcv
  replace hcs4 := Lib.hid hcs4
  replace t4 := Lib.hid t4
  replace hNew := Lib.hid hNew
  clear t3
  go_wp2_with fail
  go_loopw [53] (fun iv wr => ∃ k : Nat, k ≤ N ∧ iv = .int .i64 (k : Int) ∧ Has wr w3.heap.size (u64s cs4) 22 ∧ Two W0 B L h 60 R wr) (fun iv _ => N - (intOf iv).toNat)
  case atStart => exact ⟨0, Nat.zero_le _, rfl, by rw [hcv.out]; exact hNew.out, t4.out⟩
  case round =>
    clear hNew t4
    obtain ⟨k, hk, rfl, hA, t5⟩ := hrel
    by_cases hk4 : k < N
    · obtain ⟨hx1, hx2⟩ := hget.out k hk4
      have d0 : (k : Int) < 4 := by have := hN.out; omega
      have d1 : decide ((k : Int) < 4) = true := decide_eq_true d0
      have ck := hA.cell (u64s_get _ _ _ hx1)
      generalize cs4.getD k 0 = x at *
      have r5 := q3.out _ t5 x hx2
      have hsl := hA.lt
      have hend : ∀ wy, Below wr.heap.size wr wy → Has wy w3.heap.size (u64s cs4) 22 ∧ Two W0 B L h 60 R wy := fun wy hb => ⟨hA.only (Only.of_below hb) (Nat.not_le.2 hsl), t5.below hb⟩
      have d2 : IntKind.i64.wrap ((k : Int) + 1) = (k : Int) + 1 := wrap_small _ (by omega) (by have := hN.out; omega)
      have r6 := fun wy hb => q4.out wy (hend wy hb).2 x hx2
      replace hend := Lib.hid hend
      unfold RAtPost at r5
      unfold AtPost at r6
      by_cases hat : atOk R x = true
      · simp only [if_pos hat] at r5 r6
        replace r5 := Lib.hid r5
        replace r6 := Lib.hid r6
        clear hA
        go_wp2_with fail
        refine r5.out.mono ?_
        rintro e w5 ⟨pa, pc, rfl, hG⟩
        have hl : 0 < (atB R x).length := by
          have n1 := t5.ok.n1
          unfold atB; rw [bytesL_len, crashW_len t5.ok]; omega
        have sP := hG.str (bytesL_256 _) hl
        have b5 := hG.b
        have r7 := Lib.hid (r6.out _ b5)
        clear r6 r5 t5 hG
        go_wp2_with fail
        refine r7.out.mono ?_
        rintro e w6 ⟨rfl, b6⟩
        clear r7
        have b7 := b5.trans (b6.mono b5.size)
        have b8 := b7.trans (((Below.refl _ w6).alloc (Nat.le_refl _) (.cells #[.string (strOf (atB R x))] 44)).mono b7.size)
        have cI := (Has.new w6 [.string (strOf (atB R x))] 44).cell (o := 0) rfl
        have hBy := fun wx => (ibytes_any wx (atB R x) (bytesL_256 _)).mono (fun e w' y => BytesRd.s y (bytesL_256 _) hl)
        have sP2 := sP.up b6
        replace sP := sP2.up ((Below.refl _ w6).alloc (Nat.le_refl _) (.cells #[.string (strOf (atB R x))] 44))
        clear sP2 b5 b6 b7
        generalize strOf (atB R x) = st at *
        generalize (atB R x).length = pl at *
        obtain ⟨w7, hw7⟩ : ∃ w7, w7 = w6.alloc (.cells #[.string st] 44) := ⟨_, rfl⟩
        have hI : ∀ wx, Below w7.heap.size w7 wx → wx.cell? ⟨w6.heap.size, 0, none⟩ = some (.string st) := fun wx hB => by
          rw [← hw7] at cI
          exact Only.cell (Only.of_below hB) cI (Nat.not_le.2 (World.block_lt_of_cell? _ _ cI))
        have kB : Below w7.heap.size w7 w7 := Below.refl _ _
        have kE : ∀ wx, Below w7.heap.size w7 wx → Has wx w3.heap.size (u64s cs4) 22 ∧ Two W0 B L h 60 R wx := fun wx hB => hend.out wx (by rw [← hw7] at b8; exact Fr.step b8 hB)
        rw [← hw7] at sP
        clear b8 cI hend
        replace hI := Lib.hid hI
        replace kE := Lib.hid kE
        replace hBy := Lib.hid hBy
        replace hw7 := Lib.hid hw7
        go_wp2_with fail
        rw [← hw7.out]
        refine wp_region_call1 18 [19] (C0 := fun w' => w' = w7.drew) (C1 := fun v w' => Str w' v st ∧ Below w7.heap.size w7 w') (by kernel_rfl) (by kernel_rfl) (by decide) (by kernel_rfl) rfl (fun wx hx => ?_) (fun v hx => ?_)
        · obtain ⟨e, w', v, _, h1, h2⟩ := Calls.ex (hBy.out wx)
          exact ⟨v, w', h1, Fr.step (by rw [hx]; exact Fr.drew kB) h2⟩
        · clear hx
          have cI0 : ∀ wx, clsAt (cls1 (fun w' => w' = w7.drew) (fun v w' => Str w' v st ∧ Below w7.heap.size w7 w')) [v] 0 wx → wx.cell? ⟨w6.heap.size, 0, none⟩ = some (.string st) := fun wx hx => hI.out wx (by
            rcases cls1_at0 hx with h | h
            · rw [h]; exact Fr.drew kB
            · exact h.2)
          have cP : ∀ wx, clsAt (cls1 (fun w' => w' = w7.drew) (fun v w' => Str w' v st ∧ Below w7.heap.size w7 w')) [v] 0 wx → (convert 31 9 (.slice pa pl pc)).run Try.prog wx = .ok (.string st) wx := fun wx hx => sP wx (by
            rcases cls1_at0 hx with h | h
            · rw [h]; exact Fr.drew kB
            · exact h.2)
          have cV : ∀ wx, clsAt (cls1 (fun w' => w' = w7.drew) (fun v w' => Str w' v st ∧ Below w7.heap.size w7 w')) [v] 1 wx → (convert 31 9 v).run Try.prog wx = .ok (.string st) wx := fun wx hx => (cls1_at1 hx).1 _ (Below.refl _ _)
          replace cI0 := Lib.hid cI0
          replace cP := Lib.hid cP
          replace cV := Lib.hid cV
          replace sP := Lib.hid sP
          refine lex_chunk 0 7 _ _ _ (fun _ _ => Nat.zero_le _) (by kernel_rfl) (fun j hj => by unfold rk1; rw [if_neg (by omega)]) (by decide) ?_
          simp only [List.take_succ_cons, List.take_zero, List.drop_succ_cons, List.drop_zero]
          repeat (first | go_big_quiet_skip | (go_big_quiet_want; go_big_quiet_op; first | go_big_quiet_on | (refine ⟨_, fun _ _ => rfl, ?_⟩; go_big_quiet_on)))
          refine wpQuiet_nil ?_
          refine lex_skip (by go_simp; exact rfl) rfl (by kernel_rfl) ?_
          refine lex_chunk 0 9 _ _ _ (fun _ _ => Nat.zero_le _) (by kernel_rfl) (fun j hj => by unfold rk1; rw [if_neg (by omega)]) (by decide) ?_
          simp only [List.take_succ_cons, List.take_zero, List.drop_succ_cons, List.drop_zero]
          repeat (first | go_big_quiet_skip | (go_big_quiet_want; go_big_quiet_op; first | go_big_quiet_on | (refine ⟨_, fun _ _ => rfl, ?_⟩; go_big_quiet_on)))
          refine wpQuiet_nil ?_
          refine lex_chunk 0 1 _ _ _ (fun _ _ => Nat.zero_le _) (by kernel_rfl) (fun j hj => by unfold rk1; rw [if_neg (by omega)]) (by decide) ?_
          simp only [List.take_succ_cons, List.take_zero, List.drop_succ_cons, List.drop_zero]
          go_big_quiet_want
          go_big_quiet_op
          refine ⟨.agg #[.string st], fun wx hx => by simp [go_sem, cI0.out wx hx], ?_⟩
          go_big_quiet_on
          refine wpQuiet_nil ?_
          refine lex_call (r := 0) (v := v) rfl (by go_simp; exact rfl) rfl (by kernel_rfl) (fun wx hx => ?_) ?_
          · replace hx : wx = w7.drew := hx
            refine callUpon_mk (f := 24) (args := #[.agg #[.string st]]) (by simp [go_sem]) ?_
            exact (hBy.out wx).mono fun e w'' ⟨v', he, h1, h2⟩ => ⟨v', he, h1, Fr.step (by rw [hx]; exact Fr.drew kB) h2⟩
          refine lex_chunk 1 1 _ _ _ (fun j hj => by (have e : j = 0 := by omega); subst e; decide) (by kernel_rfl) (fun j hj => by unfold rk1; rw [if_neg (by omega)]) (by decide) ?_
          simp only [List.take_succ_cons, List.take_zero, List.drop_succ_cons, List.drop_zero]
          go_big_quiet_want
          go_big_quiet_op
          refine ⟨.string st, fun wx hx => by rw [cV.out wx hx]; exact ⟨rfl, rfl⟩, ?_⟩
          go_big_quiet_on
          refine wpQuiet_nil ?_
          refine lex_chunk 0 1 _ _ _ (fun _ _ => Nat.zero_le _) (by kernel_rfl) (fun j hj => by unfold rk1; rw [if_neg (by omega)]) (by decide) ?_
          simp only [List.take_succ_cons, List.take_zero, List.drop_succ_cons, List.drop_zero]
          repeat (first | go_big_quiet_skip | (go_big_quiet_want; go_big_quiet_op; first | go_big_quiet_on | (refine ⟨_, fun _ _ => rfl, ?_⟩; go_big_quiet_on)))
          refine wpQuiet_nil ?_
          refine lex_chunk 0 1 _ _ _ (fun _ _ => Nat.zero_le _) (by kernel_rfl) (fun j hj => by unfold rk1; rw [if_neg (by omega)]) (by decide) ?_
          simp only [List.take_succ_cons, List.take_zero, List.drop_succ_cons, List.drop_zero]
          go_big_quiet_want
          go_big_quiet_op
          refine ⟨.string st, fun wx hx => by rw [cP.out wx hx]; exact ⟨rfl, rfl⟩, ?_⟩
          go_big_quiet_on
          refine wpQuiet_nil ?_
          refine lex_chunk 0 4 _ _ _ (fun _ _ => Nat.zero_le _) (by kernel_rfl) (fun j hj => by unfold rk1; rw [if_neg (by omega)]) (by decide) ?_
          simp only [List.take_succ_cons, List.take_zero, List.drop_succ_cons, List.drop_zero]
          repeat (first | go_big_quiet_skip | (go_big_quiet_want; go_big_quiet_op; first | go_big_quiet_on | (refine ⟨_, fun _ _ => rfl, ?_⟩; go_big_quiet_on)))
          refine wpQuiet_nil ?_
          intro wz hz
          have kF := kE.out _ hz.2
          clear hz cI0 cV cP hI kE hBy sP hw7 kB
          simp only [Exit.then]
          go_wp2_with fail
          exact ⟨⟨k + 1, by omega, by go_num, kF.1, kF.2⟩, by simp [intOf]; omega⟩
      · simp only [if_neg hat] at r5 r6
        obtain ⟨st, hst⟩ : ∃ st : ByteArray, st = ⟨#[]⟩ := ⟨_, rfl⟩
        rw [← hst] at r6
        have hBy : ∀ wx, Calls Try.prog 29 #[.agg #[.string st]] wx fun e w' => e = .returned (.int .i64 0) ∧ Below wx.heap.size wx w' := fun wx => by
          rw [hst]; exact ilines_any wx [] (by simp)
        replace hst := Lib.hid hst
        replace r5 := Lib.hid r5
        replace r6 := Lib.hid r6
        clear hA
        go_wp2_with fail
        refine r5.out.mono ?_
        rintro e w5 ⟨rfl, b5⟩
        have r7 := Lib.hid (r6.out _ b5)
        clear r6 r5 t5
        go_wp2_with fail
        refine r7.out.mono ?_
        rintro e w6 ⟨rfl, b6⟩
        clear r7
        have b7 := b5.trans (b6.mono b5.size)
        have b8 := b7.trans (((Below.refl _ w6).alloc (Nat.le_refl _) (.cells #[.string st] 44)).mono b7.size)
        have cI := (Has.new w6 [.string st] 44).cell (o := 0) rfl
        clear b5 b6 b7
        obtain ⟨w7, hw7⟩ : ∃ w7, w7 = w6.alloc (.cells #[.string st] 44) := ⟨_, rfl⟩
        have hI : ∀ wx, Below w7.heap.size w7 wx → wx.cell? ⟨w6.heap.size, 0, none⟩ = some (.string st) := fun wx hB => by
          rw [← hw7] at cI
          exact Only.cell (Only.of_below hB) cI (Nat.not_le.2 (World.block_lt_of_cell? _ _ cI))
        have kB : Below w7.heap.size w7 w7 := Below.refl _ _
        have kE : ∀ wx, Below w7.heap.size w7 wx → Has wx w3.heap.size (u64s cs4) 22 ∧ Two W0 B L h 60 R wx := fun wx hB => hend.out wx (by rw [← hw7] at b8; exact Fr.step b8 hB)
        clear b8 cI hend
        replace hI := Lib.hid hI
        replace kE := Lib.hid kE
        replace hBy := Lib.hid hBy
        replace hw7 := Lib.hid hw7
        go_wp2_with fail
        rw [← hw7.out]
        refine wp_region_call1 7 [] (C0 := fun w' => w' = w7.drew) (C1 := fun v w' => v = .int .i64 0 ∧ Below w7.heap.size w7 w') (by kernel_rfl) (by kernel_rfl) (by decide) (by kernel_rfl) rfl (fun wx hx => ?_) (fun v hx => ?_)
        · obtain ⟨e, w', _, h2⟩ := Calls.ex (hBy.out wx)
          exact ⟨_, w', rfl, Fr.step (by rw [hx]; exact Fr.drew kB) h2⟩
        · obtain ⟨_, rfl, _⟩ := hx
          have cI0 : ∀ wx, clsAt (cls1 (fun w' => w' = w7.drew) (fun v w' => v = .int .i64 0 ∧ Below w7.heap.size w7 w')) [.int .i64 0] 0 wx → wx.cell? ⟨w6.heap.size, 0, none⟩ = some (.string st) := fun wx hx => hI.out wx (by
            rcases cls1_at0 hx with h | h
            · rw [h]; exact Fr.drew kB
            · exact h.2)
          replace cI0 := Lib.hid cI0
          refine lex_chunk 0 6 _ _ _ (fun _ _ => Nat.zero_le _) (by kernel_rfl) (fun j hj => by unfold rk1; rw [if_neg (by omega)]) (by decide) ?_
          simp only [List.take_succ_cons, List.take_zero, List.drop_succ_cons, List.drop_zero]
          repeat (first | go_big_quiet_skip | (go_big_quiet_want; go_big_quiet_op; first | go_big_quiet_on | (refine ⟨_, fun _ _ => rfl, ?_⟩; go_big_quiet_on)))
          refine wpQuiet_nil ?_
          refine lex_chunk 0 1 _ _ _ (fun _ _ => Nat.zero_le _) (by kernel_rfl) (fun j hj => by unfold rk1; rw [if_neg (by omega)]) (by decide) ?_
          simp only [List.take_succ_cons, List.take_zero, List.drop_succ_cons, List.drop_zero]
          go_big_quiet_want
          go_big_quiet_op
          refine ⟨.agg #[.string st], fun wx hx => by simp [go_sem, cI0.out wx hx], ?_⟩
          go_big_quiet_on
          refine wpQuiet_nil ?_
          refine lex_call (r := 0) (v := .int .i64 0) rfl (by go_simp; exact rfl) rfl (by kernel_rfl) (fun wx hx => ?_) ?_
          · replace hx : wx = w7.drew := hx
            refine callUpon_mk (f := 29) (args := #[.agg #[.string st]]) (by simp [go_sem]) ?_
            exact (hBy.out wx).mono fun e w'' ⟨he, h2⟩ => ⟨_, he, rfl, Fr.step (by rw [hx]; exact Fr.drew kB) h2⟩
          refine lex_chunk 0 10 _ _ _ (fun _ _ => Nat.zero_le _) (by kernel_rfl) (fun j hj => by unfold rk1; rw [if_neg (by omega)]) (by decide) ?_
          simp only [List.take_succ_cons, List.take_zero, List.drop_succ_cons, List.drop_zero]
          repeat (first | go_big_quiet_skip | (go_big_quiet_want; go_big_quiet_op; first | go_big_quiet_on | (refine ⟨_, fun _ _ => rfl, ?_⟩; go_big_quiet_on)))
          refine wpQuiet_nil ?_
          refine lex_skip (by go_simp; exact rfl) rfl (by kernel_rfl) ?_
          refine lex_chunk 0 7 _ _ _ (fun _ _ => Nat.zero_le _) (by kernel_rfl) (fun j hj => by unfold rk1; rw [if_neg (by omega)]) (by decide) ?_
          simp only [List.take_succ_cons, List.take_zero, List.drop_succ_cons, List.drop_zero]
          repeat (first | go_big_quiet_skip | (go_big_quiet_want; go_big_quiet_op; first | go_big_quiet_on | (refine ⟨_, fun _ _ => rfl, ?_⟩; go_big_quiet_on)))
          refine wpQuiet_nil ?_
          intro wz hz
          have kF := kE.out _ hz.2
          clear hz cI0 hI kE hBy hw7 kB
          simp only [Exit.then]
          go_wp2_with fail
          exact ⟨⟨k + 1, by omega, by go_num, kF.1, kF.2⟩, by simp [intOf]; omega⟩
    · have d1 : decide ((k : Int) < 4) = false := decide_eq_false (by have := hN.out; omega)
      have r5 := Lib.hid (q5.out _ t5)
      clear hA t5
      go_wp2_with fail
      refine r5.out.mono ?_
      rintro e w5 ⟨rfl, t6⟩
      have hx := b1.out _ t6
      clear t6 r5
      go_wp2_with fail
      go_ret
      exact ⟨rfl, hx⟩
end Go.Proofs.Ytikjpklbbjmioaa
