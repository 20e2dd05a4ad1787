/- CrashsetGreat: the walk. -/
import Derived.Test.YtikjpklbbjmioaaK36
namespace Go.Proofs.Ytikjpklbbjmioaa
open Go.RowKit Go.Maps Go.BigFrame
variable {w : World} {F : Own} {o o' h T T' : Nat} {R R' : Dv} {L : Lay} {wx : World} {B : Nat}
/-- The device is one step ahead of the reference. -/
structure Mix (w : World) (B : Nat) (L : Lay) (h T : Nat) (R : Dv) (T' : Nat) (R' : Dv) (wx : World) : Prop where
  ex : ∃ F, DevSt wx F 0 L T' R' ∧ RefSt wx F 1 h T R ∧ Free F B
  b : Below B w wx
  hB : B ≤ w.heap.size
theorem Two.dstore (hp : Two w B L h T R wx) (hT : T + 2 ≤ 100000) {off v : Nat} (hof : off < 18446744073709551616) (hv : v < 18446744073709551616) :
    Calls Try.prog 16 #[.pointer (some ⟨L.tb 0, 0, none⟩), .int .u64 (off : Int), .int .u64 (v : Int)] wx fun e w' => e = .returned (.tuple #[]) ∧ Mix w B L h T R (T + 2) (storeP R 0 off v) w' := by
  obtain ⟨F, h1, h2, h3⟩ := hp.ex
  have hBx := Nat.le_trans hp.hB hp.b.size
  exact (store_any h1 hT (t := 0) (by omega) hof hv).mono fun e w' ⟨F', he, d1, hs⟩ => ⟨he, ⟨F', d1, h2.other hs (by omega), h3.step hs hBx⟩, hp.b.trans (h3.below hs hBx), hp.hB⟩
theorem Mix.rstore {off v : Nat} (hp : Mix w B L h T R (T + 2) (storeP R 0 off v) wx) (hT : T + 2 ≤ 100000) (hof : off < 18446744073709551616) (hv : v < 18446744073709551616) :
    Calls Try.prog 19 #[.pointer (some ⟨h, 0, none⟩), .int .i64 0, .int .u64 (off : Int), .int .u64 (v : Int)] wx fun e w' => e = .returned (.tuple #[]) ∧ Two w B L h (T + 2) (storeP R 0 off v) w' := by
  obtain ⟨F, h1, h2, h3⟩ := hp.ex
  have hBx := Nat.le_trans hp.hB hp.b.size
  exact (rstore_any h2 hT (t := 0) (by omega) hof hv).mono fun e w' ⟨F', he, d1, hs⟩ => ⟨he, ⟨F', h1.other hs (by omega), d1, h3.step hs hBx⟩, hp.b.trans (h3.below hs hBx), hp.hB⟩
theorem Two.thr (hp : Two w B L h T R wx) : Calls Try.prog 15 #[.pointer (some ⟨L.g, 0, none⟩), .int .i64 0] wx fun e w' => e = .returned (.pointer (some ⟨L.tb 0, 0, none⟩)) ∧ wx = w' := by
  obtain ⟨F, h1, h2, h3⟩ := hp.ex
  exact thread_in h1 (t := 0) (by omega)
theorem two_new {w1 w2 : World} {F1 F2 : Own} (d1 : DevSt w1 F1 0 L 0 R) (x1 : Ext w noOwn F1) (b1 : Below w.heap.size w w1) (r2 : RefSt w2 F2 1 h 0 R) (x2 : Ext w1 F1 F2) (b2 : Below w1.heap.size w1 w2) : Two w w.heap.size L h 0 R w2 := by
  refine ⟨⟨F2, d1.belowX b2 x2, r2, fun k hk => ?_⟩, b1.trans (b2.mono b1.size), Nat.le_refl _⟩
  rw [x2 k (by have := b1.size; omega), x1 k hk]; rfl
theorem great_lines (l : Int) (h : i64B l) : ∃ N : Nat, 1 + (wrap64 (l.tmod 64 + 64)).tmod 64 = (N : Int) ∧ 1 ≤ N ∧ N ≤ 64 := by
  unfold i64B at h
  have h1 : -64 < l.tmod 64 ∧ l.tmod 64 < 64 := ⟨Int.lt_tmod_of_pos _ (by omega), Int.tmod_lt_of_pos _ (by omega)⟩
  have h2 : wrap64 (l.tmod 64 + 64) = l.tmod 64 + 64 := by unfold wrap64; omega
  rw [h2]
  generalize l.tmod 64 = t at *
  rw [Int.tmod_eq_emod_of_nonneg (by omega)]
  refine ⟨(1 + (t + 64) % 64).toNat, ?_, ?_, ?_⟩ <;> omega
theorem great_stores (l : Int) (h : i64B l) : ∃ S : Nat, (wrap64 (l.tmod 20 + 20)).tmod 20 = (S : Int) ∧ S < 20 := by
  unfold i64B at h
  have h1 : -20 < l.tmod 20 ∧ l.tmod 20 < 20 := ⟨Int.lt_tmod_of_pos _ (by omega), Int.tmod_lt_of_pos _ (by omega)⟩
  have h2 : wrap64 (l.tmod 20 + 20) = l.tmod 20 + 20 := by unfold wrap64; omega
  rw [h2]
  generalize l.tmod 20 = t at *
  rw [Int.tmod_eq_emod_of_nonneg (by omega)]
  refine ⟨((t + 20) % 20).toNat, ?_, ?_⟩ <;> omega
theorem Two.ccountZ' (hp : Two w B L h T R wx) : Calls Try.prog 21 #[.pointer (some ⟨L.g, 0, none⟩)] wx (TotPost wx (cntV R)) := by
  obtain ⟨F, h1, h2, h3⟩ := hp.ex
  exact ccount_any h1
set_option maxHeartbeats 8000000 in
set_option maxRecDepth 100000 in
theorem great_walk (W : World) (lines stores : Int) (n : Nat) (hl : i64B lines) (hs : i64B stores) (hn : n < 18446744073709551616) :
    Calls Try.prog 4 #[.int .i64 lines, .int .i64 stores, .int .u64 (n : Int)] W fun e w' => e = .returned (.bool true) ∧ Below W.heap.size W w' := by
  generalize hpost : (fun (e : Ending) w' => e = .returned (.bool true) ∧ Below W.heap.size W w') = post
  obtain ⟨N, hN, hN1, hN2⟩ := great_lines lines hl
  obtain ⟨S, hS, hS1⟩ := great_stores stores hs
  have qN := fun wx => new_any wx noOwn 0 N hN1 (by omega)
  have qR := fun wx F => rnew_any wx F 1 N hN1 (by omega)
  replace hpost := Lib.hid hpost
  replace qN := Lib.hid qN
  replace qR := Lib.hid qR
  unfold i64B at hl hs
  go_enter Try.func4, Try.ntmps4
  go_wp2_with fail
  refine (awake5_any _).mono ?_
  rintro e w1 ⟨rfl, b1⟩
  go_wp2_with fail
  refine (qN.out w1).mono ?_
  rintro e w2 ⟨L, F1, rfl, d1, x1, b2⟩
  replace d1 := Lib.hid d1
  replace x1 := Lib.hid x1
  go_wp2_with fail
  refine (qR.out w2 F1).mono ?_
  rintro e w3 ⟨h, F2, rfl, r2, x2, b3⟩
  have t3 := two_new d1.out x1.out b2 r2 x2 b3
  replace t3 := Lib.hid t3
  replace b1 := Lib.hid b1
  clear d1 x1 b2 r2 x2 b3 qN qR
  go_wp2_with fail
  clear hN hS
  generalize (wrap64 (lines.tmod 64 + 64)).tmod 64 = j1
  generalize wrap64 (lines.tmod 64 + 64) = j2
  generalize lines.tmod 64 = j3
  generalize (wrap64 (stores.tmod 20 + 20)).tmod 20 = j4
  generalize wrap64 (stores.tmod 20 + 20) = j5
  generalize stores.tmod 20 = j6
  go_loopw [47] (fun iv wr => ∃ (i T : Nat) (R : Dv), i ≤ N ∧ iv = .int .i64 (i : Int) ∧ T ≤ 40 * i ∧ Two w1 w1.heap.size L h T R wr) (fun iv _ => N - (intOf iv).toNat)
  case atStart => exact ⟨0, 0, _, Nat.zero_le _, rfl, Nat.zero_le _, t3.out⟩
  case round =>
    clear t3
    obtain ⟨i, T, R, hi, rfl, hT, t4⟩ := hrel
    by_cases hlt : i < N
    · have d0 : decide ((i : Int) < (N : Int)) = true := decide_eq_true (by omega)
      have d0N : decide (i < N) = true := decide_eq_true hlt
      have hwi := Lib.hid (show wrap64 ((i : Int) + 1) = (i : Int) + 1 by unfold wrap64; omega)
      replace t4 := Lib.hid t4
      go_wp2_with fail
      obtain ⟨wo, hwo⟩ : ∃ wo : World, wo = wr := ⟨_, rfl⟩
      go_loopw [51] (fun kv wq => ∃ (k T : Nat) (R : Dv), k ≤ S ∧ kv = .int .i64 (k : Int) ∧ T ≤ 40 * i + 2 * k ∧ Two w1 w1.heap.size L h T R wq) (fun kv _ => S - (intOf kv).toNat)
      case atStart => exact ⟨0, T, R, Nat.zero_le _, rfl, by omega, t4.out⟩
      case round =>
        clear t4
        obtain ⟨k, T2, R2, hk, rfl, hT2, t5⟩ := hrel
        by_cases hkS : k < S
        · have d1 : decide ((k : Int) < (S : Int)) = true := decide_eq_true (by omega)
          have d1N : decide (k < S) = true := decide_eq_true hkS
          have hwk := Lib.hid (show wrap64 ((k : Int) + 1) = (k : Int) + 1 by unfold wrap64; omega)
          have q1 := t5.thr
          have q2 := t5.dstore (by omega) (off := 64 * i + 8 * (k % 8)) (v := i + k) (by omega) (by omega)
          have q3 := fun wx (hp : Mix w1 w1.heap.size L h T2 R2 (T2 + 2) (storeP R2 0 (64 * i + 8 * (k % 8)) (i + k)) wx) => hp.rstore (by omega) (by omega) (by omega)
          rw [show ((64 * i + 8 * (k % 8) : Nat) : Int) = 64 * (i : Int) + 8 * ((k : Int) % 8) by omega, show ((i + k : Nat) : Int) = (i : Int) + (k : Int) by omega] at q2
          simp only [show ((64 * i + 8 * (k % 8) : Nat) : Int) = 64 * (i : Int) + 8 * ((k : Int) % 8) by omega, show ((i + k : Nat) : Int) = (i : Int) + (k : Int) by omega] at q3
          replace q1 := Lib.hid q1
          replace q2 := Lib.hid q2
          replace q3 := Lib.hid q3
          clear t5
          go_wp2_with fail
          refine q1.out.mono ?_
          rintro e w' ⟨rfl, rfl⟩
          go_wp2_with fail
          refine q2.out.mono ?_
          rintro e w5 ⟨rfl, m5⟩
          have q3' := Lib.hid (q3.out w5 m5)
          clear q1 q2 q3 m5
          go_wp2_with fail
          refine q3'.out.mono ?_
          rintro e w6 ⟨rfl, t6⟩
          have hrel : ∃ (k' T' : Nat) (R' : Dv), k' ≤ S ∧ Value.int .i64 ((k : Int) + 1) = .int .i64 (k' : Int) ∧ T' ≤ 40 * i + 2 * k' ∧ Two w1 w1.heap.size L h T' R' w6 := ⟨k + 1, T2 + 2, _, by omega, rfl, by omega, t6⟩
          replace hrel := Lib.hid hrel
          clear q3' t6
          go_wp2_with fail
          exact ⟨hrel.out, by simp [intOf]; omega⟩
        · have d1 : decide ((k : Int) < (S : Int)) = false := decide_eq_false (by omega)
          have d1N : decide (k < S) = false := decide_eq_false (by omega)
          replace t5 := Lib.hid t5
          go_wp2_with fail
          exact ⟨⟨i + 1, T2, R2, by omega, rfl, by omega, t5.out⟩, by simp [intOf]; omega⟩
    · have d0 : decide ((i : Int) < (N : Int)) = false := decide_eq_false (by omega)
      have d0N : decide (i < N) = false := decide_eq_false (by omega)
      have hok := t4.ok
      have hn2 := hok.n2
      have hn1 := hok.n1
      have hfin : ∀ wx, Two w1 w1.heap.size L h T R wx → post (.returned (.bool true)) wx := fun wx hp => by
        rw [← hpost.out]; exact ⟨rfl, b1.out.trans (hp.b.mono b1.out.size)⟩
      obtain ⟨cc, hcc⟩ : ∃ cc, cc = (cntV R).1 := ⟨_, rfl⟩
      obtain ⟨cs, hcs⟩ : ∃ cs, cs = (cntV R).2 := ⟨_, rfl⟩
      have q1 := t4.r5countZ
      have q2 := fun wx (hp : Two w1 w1.heap.size L h T R wx) => hp.ccountZ'
      unfold TotPost at q2
      rw [← hcc, ← hcs] at q1
      simp only [← hcc, ← hcs] at q2
      have q3 := fun wx (hp : Two w1 w1.heap.size L h T R wx) => hp.r5at n hn
      have q4 := fun wx (hp : Two w1 w1.heap.size L h T R wx) => hp.cat n hn
      replace q1 := Lib.hid q1
      replace q2 := Lib.hid q2
      replace q3 := Lib.hid q3
      replace q4 := Lib.hid q4
      replace hfin := Lib.hid hfin
      replace hcc := Lib.hid hcc
      replace hcs := Lib.hid hcs
      clear t4
      go_wp2_with fail
      refine q1.out.mono ?_
      rintro e w2 ⟨rfl, t5, _⟩
      have q2' := Lib.hid (q2.out w2 t5)
      clear q1 q2
      go_wp2_with fail
      refine q2'.out.mono ?_
      rintro e w3' ⟨rfl, hB5⟩
      have t6 := t5.below hB5
      have q3' := q3.out w3' t6
      clear q2' q3 hB5 t5
      have n1 : ((cc : Int) != (cc : Int)) = false := by simp
      have n2 : (cs != cs) = false := by simp
      unfold RAtPost at q3'
      unfold AtPost at q4
      by_cases hat : atOk R n = true
      · simp only [if_pos hat] at q3' q4
        obtain ⟨ws, hws⟩ : ∃ ws, ws = crashW R (kOf R (digR R (dirtyL R) n)) := ⟨_, rfl⟩
        have hab : atB R n = bytesL ws := by rw [hws]; rfl
        have hwl : ws.length = R.lines.length * 8 := by rw [hws]; exact crashW_len hok _
        have hwt : ∀ x ∈ ws, x < 18446744073709551616 := by rw [hws]; exact crashW_lt hok _
        have hpo : possB R ws = true := by
          rw [hws]
          refine poss_crash hok _ (fun l hl => ?_)
          unfold kOf
          by_cases hd : 0 < (R.line l).hist.length
          · rw [if_pos hd]
            by_cases h2 : (dirtyTo R l).length < (digR R (dirtyL R) n).length
            · rw [if_pos h2]; exact digR_le R _ n _ l (dirty_place hl hd)
            · rw [if_neg h2]; exact Nat.zero_le _
          · rw [if_neg hd]; exact Nat.zero_le _
        have hbl : (bytesL ws).length = R.lines.length * 64 := by rw [bytesL_len]; omega
        rw [hab] at q3'
        simp only [hab] at q4
        have hI2 : ∀ wx, Calls Try.prog 24 #[.agg #[.string (strOf (bytesL ws))]] wx (SPost wx (strOf (bytesL ws))) := fun wx => (ibytes_any wx (bytesL ws) (bytesL_256 _)).mono fun e w' h => h.s (bytesL_256 _) (by rw [hbl]; omega)
        obtain ⟨xI, hxI⟩ : ∃ xI, xI = (idxV R ws).1 := ⟨_, rfl⟩
        obtain ⟨fI, hfI⟩ : ∃ fI, fI = (idxV R ws).2 := ⟨_, rfl⟩
        have q5 := fun wx (hp : Two w1 w1.heap.size L h T R wx) a c h1 h2 h3 => hp.r5idx ws R.lines.length a c hwl (by omega) h1 h2 hwt h3
        have q6 := fun wx (hp : Two w1 w1.heap.size L h T R wx) => hp.cidx ws R.lines.length hwl (by omega) hwt
        have q7 := fun wx (hp : Two w1 w1.heap.size L h T R wx) => hp.cposs ws R.lines.length hwl (by omega) hwt
        unfold IdxPost at q5 q6
        rw [← hxI, ← hfI] at q5 q6
        rw [hpo] at q7
        have hG1 : ∀ (a : Option Addr) (c : Nat) (wx : World), Grow w3' wx 5 a (bytesL ws).length c (u8s (bytesL ws)) → R.lines.length * 64 ≤ c ∧ c ≤ 9223372036854775807 ∧ Rd wx (.slice a (bytesL ws).length c) (bytesL ws).length (u8s (bytesL ws)) ∧ Str wx (.slice a (bytesL ws).length c) (strOf (bytesL ws)) ∧ Below w3'.heap.size w3' wx := fun a c wx hG => by
          have hs := hG.str (bytesL_256 _) (by rw [hbl]; omega)
          refine ⟨?_, ?_, Rd.of_own hG.own, hs, hG.b⟩
          · rcases hG.own.2 with ⟨_, h0⟩ | ⟨g, cap, cur, he, _, _, h1, h2, _⟩
            · rw [hbl] at h0; omega
            · simp only [Value.slice.injEq] at he
              obtain ⟨_, _, rfl⟩ := he
              rw [hbl] at h1; exact h1
          · rcases hG.own.2 with ⟨_, h0⟩ | ⟨g, cap, cur, he, _, _, h1, h2, _⟩
            · rw [hbl] at h0; omega
            · simp only [Value.slice.injEq] at he
              obtain ⟨_, _, rfl⟩ := he
              exact h2
        generalize strOf (bytesL ws) = st at *
        replace q3' := Lib.hid q3'
        replace q5 := Lib.hid q5
        replace q6 := Lib.hid q6
        replace q7 := Lib.hid q7
        replace hI2 := Lib.hid hI2
        replace hG1 := Lib.hid hG1
        replace hws := Lib.hid hws
        replace hab := Lib.hid hab
        replace hwl := Lib.hid hwl
        replace hpo := Lib.hid hpo
        replace hbl := Lib.hid hbl
        replace hxI := Lib.hid hxI
        replace hfI := Lib.hid hfI
        replace hat := Lib.hid hat
        replace q4 := Lib.hid q4
        clear hwt
        go_wp2_with fail
        refine q3'.out.mono ?_
        rintro e w4 ⟨pa, pc, rfl, hG⟩
        obtain ⟨g1, g2, g3, g4, g5⟩ := hG1.out pa pc w4 hG
        have t7 := t6.below g5
        have q4' := Lib.hid (q4.out w4 t7)
        replace g3 := Lib.hid g3
        replace g4 := Lib.hid g4
        clear q3' hG hG1 t6 g5 q4
        go_wp2_with fail
        refine q4'.out.mono ?_
        rintro e w5 ⟨rfl, hB5⟩
        obtain ⟨w6, hw6⟩ : ∃ w6, w6 = w5.alloc (.cells #[.string st] 44) := ⟨_, rfl⟩
        have hB6 : Below w5.heap.size w5 w6 := by rw [hw6]; exact (Below.refl _ _).alloc (Nat.le_refl _) _
        have hB46 := hB5.trans (hB6.mono hB5.size)
        have hI6 : Has w6 w5.heap.size [.string st] 44 := by rw [hw6]; exact Has.new w5 [.string st] 44
        have t8 := t7.below hB46
        have r6 := g3.out.kept hB46
        have s6 := g4.out.up hB46
        have hI : ∀ wx, Below w6.heap.size w6 wx → wx.cell? ⟨w5.heap.size, 0, none⟩ = some (.string st) := fun wx hB => (hI6.only (Only.of_below hB) (Nat.not_le.2 hI6.lt)).cell (o := 0) rfl
        have hT8 : ∀ wx, Below w6.heap.size w6 wx → Two w1 w1.heap.size L h T R wx ∧ Rd wx (.slice pa (bytesL ws).length pc) (bytesL ws).length (u8s (bytesL ws)) := fun wx hB => ⟨t8.below hB, r6.kept hB⟩
        have kB : Below w6.heap.size w6 w6 := Below.refl _ _
        replace s6 := Lib.hid s6
        replace hI := Lib.hid hI
        replace hT8 := Lib.hid hT8
        replace hw6 := Lib.hid hw6
        clear q4' g3 g4 t7 hB5 hB6 hB46 hI6 t8 r6
        generalize (bytesL ws).length = bl at *
        go_wp2_with fail
        rw [← hw6.out]
        refine wp_region_call1 18 [19] (C0 := fun w' => w' = w6.drew) (C1 := fun v w' => Str w' v st ∧ Below w6.heap.size w6 w') (by kernel_rfl) (by kernel_rfl) (by decide) (by kernel_rfl) rfl (fun wx hx => ?_) (fun v hx => ?_)
        · obtain ⟨e, w', v, _, h1, h2⟩ := Calls.ex (hI2.out wx)
          exact ⟨v, w', h1, Fr.step (by rw [hx]; exact Fr.drew kB) h2⟩
        · have hbc : ∀ wx, clsAt (cls1 (fun w' => w' = w6.drew) (fun v w' => Str w' v st ∧ Below w6.heap.size w6 w')) [v] 0 wx → Below w6.heap.size w6 wx := fun wx hx => by
            rcases cls1_at0 hx with h | h
            · rw [h]; exact Fr.drew kB
            · exact h.2
          have cV : ∀ wx, clsAt (cls1 (fun w' => w' = w6.drew) (fun v w' => Str w' v st ∧ Below w6.heap.size w6 w')) [v] 1 wx → (convert 31 9 v).run Try.prog wx = .ok (.string st) wx := fun wx hx => (cls1_at1 hx).1 _ (Below.refl _ _)
          replace hbc := Lib.hid hbc
          replace cV := Lib.hid cV
          refine lex_chunk 0 17 _ _ _ (fun _ _ => Nat.zero_le _) (by kernel_rfl) (fun j hj => by unfold rk1; rw [if_neg (by omega)]) (by decide) ?_
          simp only [List.take_succ_cons, List.take_zero, List.drop_succ_cons, List.drop_zero]
          repeat (first | go_big_quiet_skip | (go_big_quiet_want; go_big_quiet_op; first | go_big_quiet_on | (refine ⟨_, fun _ _ => rfl, ?_⟩; go_big_quiet_on)))
          refine wpQuiet_nil ?_
          refine lex_chunk 0 1 _ _ _ (fun _ _ => Nat.zero_le _) (by kernel_rfl) (fun j hj => by unfold rk1; rw [if_neg (by omega)]) (by decide) ?_
          simp only [List.take_succ_cons, List.take_zero, List.drop_succ_cons, List.drop_zero]
          go_big_quiet_want
          go_big_quiet_op
          refine ⟨.agg #[.string st], fun wx hx => by simp [go_sem, hI.out wx (hbc.out wx hx)], ?_⟩
          go_big_quiet_on
          refine wpQuiet_nil ?_
          refine lex_call (r := 0) (v := v) rfl (by go_simp; exact rfl) rfl (by kernel_rfl) (fun wx hx => ?_) ?_
          · replace hx : wx = w6.drew := hx
            refine callUpon_mk (f := 24) (args := #[.agg #[.string st]]) (by simp [go_sem]) ?_
            exact (hI2.out wx).mono fun e w'' ⟨v', he, h1, h2⟩ => ⟨v', he, h1, Fr.step (by rw [hx]; exact Fr.drew kB) h2⟩
          refine lex_chunk 1 1 _ _ _ (fun j hj => by obtain rfl : j = 0 := by omega
                                                     decide) (by kernel_rfl) (fun j hj => by unfold rk1; rw [if_neg (by omega)]) (by decide) ?_
          simp only [List.take_succ_cons, List.take_zero, List.drop_succ_cons, List.drop_zero]
          go_big_quiet_want
          go_big_quiet_op
          refine ⟨.string st, fun wx hx => by rw [cV.out wx hx]; exact ⟨rfl, rfl⟩, ?_⟩
          go_big_quiet_on
          refine wpQuiet_nil ?_
          refine lex_chunk 0 1 _ _ _ (fun _ _ => Nat.zero_le _) (by kernel_rfl) (fun j hj => by unfold rk1; rw [if_neg (by omega)]) (by decide) ?_
          simp only [List.take_succ_cons, List.take_zero, List.drop_succ_cons, List.drop_zero]
          repeat (first | go_big_quiet_skip | (go_big_quiet_want; go_big_quiet_op; first | go_big_quiet_on | (refine ⟨_, fun _ _ => rfl, ?_⟩; go_big_quiet_on)))
          refine wpQuiet_nil ?_
          refine lex_chunk 0 1 _ _ _ (fun _ _ => Nat.zero_le _) (by kernel_rfl) (fun j hj => by unfold rk1; rw [if_neg (by omega)]) (by decide) ?_
          simp only [List.take_succ_cons, List.take_zero, List.drop_succ_cons, List.drop_zero]
          go_big_quiet_want
          go_big_quiet_op
          refine ⟨.string st, fun wx hx => by rw [s6.out wx (hbc.out wx hx)]; exact ⟨rfl, rfl⟩, ?_⟩
          go_big_quiet_on
          refine wpQuiet_nil ?_
          refine lex_chunk 0 3 _ _ _ (fun _ _ => Nat.zero_le _) (by kernel_rfl) (fun j hj => by unfold rk1; rw [if_neg (by omega)]) (by decide) ?_
          simp only [List.take_succ_cons, List.take_zero, List.drop_succ_cons, List.drop_zero]
          repeat (first | go_big_quiet_skip | (go_big_quiet_want; go_big_quiet_op; first | go_big_quiet_on | (refine ⟨_, fun _ _ => rfl, ?_⟩; go_big_quiet_on)))
          refine wpQuiet_nil ?_
          intro wz hz
          replace hz := hz.2
          obtain ⟨tz, rz⟩ := hT8.out wz hz
          have cz := hI.out wz hz
          have hI7 : ∀ wx, Below wz.heap.size wz wx → wx.cell? ⟨w5.heap.size, 0, none⟩ = some (.string st) := fun wx hb => hI.out wx (Fr.step hz hb)
          have q5' := Lib.hid (q5.out wz tz pa pc g1 g2 rz)
          replace hI7 := Lib.hid hI7
          clear hz hbc cV hI hT8 hI2 s6 q5 rz
          have n3 : ((xI : Int) == (xI : Int)) = true := by simp
          have n4 : (fI == fI) = true := by simp
          simp only [Exit.then]
          go_wp2_with fail
          refine q5'.out.mono ?_
          rintro e w7 ⟨rfl, hB7⟩
          have t9 := tz.below hB7
          have c7 := hI7.out w7 hB7
          have q6' := Lib.hid (q6.out w7 t9)
          clear q5' q6 cz tz
          go_wp2_with fail
          refine q6'.out.mono ?_
          rintro e w8 ⟨rfl, hB8⟩
          have t10 := t9.below hB8
          have c8 := hI7.out w8 (Fr.step hB7 hB8)
          have q7' := Lib.hid (q7.out w8 t10)
          clear q6' q7 c7 t9 hB7 hB8 hI7
          go_wp2_with fail
          refine q7'.out.mono ?_
          rintro e w9 ⟨rfl, hB9⟩
          have hx := Lib.hid (hfin.out w9 (t10.below hB9))
          clear q7' hB9 t10 c8
          go_wp2_with fail
          exact hx.out
      · simp only [if_neg hat] at q3' q4
        have q4f := Lib.hid q4
        replace q3' := Lib.hid q3'
        replace hat := Lib.hid hat
        clear q4
        go_wp2_with fail
        refine q3'.out.mono ?_
        rintro e w4 ⟨rfl, hB4⟩
        have t7 := t6.below hB4
        have q4' := Lib.hid (q4f.out w4 t7)
        clear q3' q4f hB4 t6
        go_wp2_with fail
        refine q4'.out.mono ?_
        rintro e w5 ⟨rfl, hB5⟩
        obtain ⟨w6, hw6⟩ : ∃ w6, w6 = w5.alloc (.cells #[Value.string ⟨#[]⟩] 44) := ⟨_, rfl⟩
        have hB6 : Below w5.heap.size w5 w6 := by rw [hw6]; exact (Below.refl _ _).alloc (Nat.le_refl _) _
        have t8 := (t7.below hB5).below hB6
        have hx := Lib.hid (hfin.out w6.drew (t8.below (Fr.drew (Below.refl _ _))))
        replace hw6 := Lib.hid hw6
        clear q4' hB5 hB6 t7 t8
        go_wp2_with fail
        rw [← hw6.out]
        refine wp_region_steps [] [] (fun _ w' => w' = w6.drew) (by kernel_rfl) (by kernel_rfl) (by kernel_rfl) rfl (fun H w' _ hl => absurd hl (Nat.not_lt_zero _)) (fun Hf hHf _ => ?_)
        refine lex_chunk 0 18 _ _ _ (fun _ _ => Nat.zero_le _) (by kernel_rfl) (fun j hj => rfl) (by decide) ?_
        simp only [List.take_succ_cons, List.take_zero, List.drop_succ_cons, List.drop_zero]
        repeat (first | go_big_quiet_skip | (go_big_quiet_want; go_big_quiet_op; first | go_big_quiet_on | (refine ⟨_, fun _ _ => rfl, ?_⟩; go_big_quiet_on)))
        refine wpQuiet_nil ?_
        refine lex_skip (by go_simp; exact rfl) rfl (by kernel_rfl) ?_
        refine lex_chunk 0 6 _ _ _ (fun _ _ => Nat.zero_le _) (by kernel_rfl) (fun j hj => rfl) (by decide) ?_
        simp only [List.take_succ_cons, List.take_zero, List.drop_succ_cons, List.drop_zero]
        repeat (first | go_big_quiet_skip | (go_big_quiet_want; go_big_quiet_op; first | go_big_quiet_on | (refine ⟨_, fun _ _ => rfl, ?_⟩; go_big_quiet_on)))
        refine wpQuiet_nil ?_
        intro wz hz
        subst hz
        simp only [Exit.then]
        go_wp2_with fail
        exact hx.out
end Go.Proofs.Ytikjpklbbjmioaa
