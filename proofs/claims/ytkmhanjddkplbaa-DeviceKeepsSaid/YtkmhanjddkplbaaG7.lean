/- DeviceFails: the walk. -/
import Derived.Test.YtkmhanjddkplbaaG6
import Derived.Test.YtkmhanjddkplbaaG5
import Derived.Test.YtkmhanjddkplbaaP1
import Derived.Test.YtkmhanjddkplbaaH4
namespace Go.Proofs.Ytkmhanjddkplbaa
open Go.RowKit Go.Maps
variable {w wx : World} {B h T1 T2 : Nat} {R1 R2 : Dv} {L : Lay}

/-- A device, and the reference's device in another state. -/
structure Dp (w : World) (B : Nat) (L : Lay) (h T1 : Nat) (R1 : Dv) (T2 : Nat) (R2 : Dv) (wx : World) : Prop where
  ex : ∃ F, DevSt wx F 0 L T1 R1 ∧ RefSt wx F 1 h T2 R2 ∧ Free F B
  b : Below B w wx
  hB : B ≤ w.heap.size
theorem Dp.below {w' : World} (hp : Dp w B L h T1 R1 T2 R2 wx) (hb : Below wx.heap.size wx w') : Dp w B L h T1 R1 T2 R2 w' := by
  obtain ⟨F, h1, h2, h3⟩ := hp.ex
  exact ⟨⟨F, h1.below hb, h2.below hb, h3⟩, hp.b.trans (hb.mono (Nat.le_trans hp.hB hp.b.size)), hp.hB⟩
theorem Dp.drewN (hp : Dp w B L h T1 R1 T2 R2 wx) (n : Nat) : Dp w B L h T1 R1 T2 R2 (wx.drewN n) := hp.below (below_drewN (Below.refl _ _) n)
theorem Dp.alloc (hp : Dp w B L h T1 R1 T2 R2 wx) (x : Obj) : Dp w B L h T1 R1 T2 R2 (wx.alloc x) := hp.below ((Below.refl _ _).alloc (Nat.le_refl _) x)
theorem Dp.ok (hp : Dp w B L h T1 R1 T2 R2 wx) : R1.Ok T1 := by obtain ⟨F, h1, _⟩ := hp.ex; exact h1.ok
def DoAny (w : World) (B : Nat) (L : Lay) (h T1 : Nat) (R1 : Dv) (T2 : Nat) (R2 : Dv) (e : Ending) (w' : World) : Prop := ∃ b, e = .returned (.bool b) ∧ Dp w B L h T1 R1 T2 R2 w'
theorem Dp.do (hp : Dp w B L h T1 R1 T2 R2 wx) (hT1 : T1 + 2 ≤ 100000) (hT2 : T2 + 2 ≤ 100000) (x : Evt) (hx : x.Fit) :
    Calls Try.prog 25 #[.pointer (some ⟨L.g, 0, none⟩), .pointer (some ⟨h, 0, none⟩), .agg #[.int .i64 x.kind, .int .i64 x.thr, .int .u64 (x.off : Int), .int .u64 (x.old : Int), .int .u64 (x.val : Int), .int .i64 x.n]] wx (DoAny w B L h (T1 + 2) (doP R1 x) (T2 + 2) (doP R2 x)) := by
  obtain ⟨F, h1, h2, h3⟩ := hp.ex
  have hBx := Nat.le_trans hp.hB hp.b.size
  exact (dp_any h1 h2 (by omega) hT1 hT2 x hx).mono fun e w' ⟨b, F', he, d1, d2, hs⟩ => ⟨b, he, ⟨F', d1, d2, h3.step2 hs hBx⟩, hp.b.trans (h3.below2 hs hBx), hp.hB⟩
theorem Dp.quiet {f : Nat} {args : Array Value} {v : Value} (hp : Dp w B L h T1 R1 T2 R2 wx) (hc : ∀ F, DevSt wx F 0 L T1 R1 → Calls Try.prog f args wx fun e w' => e = .returned v ∧ wx = w') :
    Calls Try.prog f args wx fun e w' => e = .returned v ∧ wx = w' := by
  obtain ⟨F, h1, _⟩ := hp.ex; exact hc F h1
theorem Dp.dev {T : Nat} {R : Dv} {f : Nat} {args : Array Value} {v : Value} (hp : Dp w B L h T1 R1 T2 R2 wx) (hc : ∀ F, DevSt wx F 0 L T1 R1 → Calls Try.prog f args wx (DPost wx F 0 L T R v)) :
    Calls Try.prog f args wx fun e w' => e = .returned v ∧ Dp w B L h T R T2 R2 w' := by
  obtain ⟨F, h1, h2, h3⟩ := hp.ex
  have hBx := Nat.le_trans hp.hB hp.b.size
  exact (hc F h1).mono fun e w' ⟨F', he, d, hs⟩ => ⟨he, ⟨F', d, h2.other hs (by omega), h3.step hs hBx⟩, hp.b.trans (h3.below hs hBx), hp.hB⟩
theorem Dp.cur (hp : Dp w B L h T1 R1 T2 R2 wx) : Calls Try.prog 28 #[.pointer (some ⟨L.g, 0, none⟩)] wx (SPost wx (strOf (bytesL R1.curW))) := by
  obtain ⟨F, h1, _⟩ := hp.ex; exact (current_any h1).mono fun _ _ x => x.s
theorem Dp.per (hp : Dp w B L h T1 R1 T2 R2 wx) : Calls Try.prog 20 #[.pointer (some ⟨L.g, 0, none⟩)] wx (SPost wx (strOf (bytesL R1.perW))) := by
  obtain ⟨F, h1, _⟩ := hp.ex; exact (persisted_any h1).mono fun _ _ x => x.s
/-- The first loop's state. -/
structure FailR (W : World) (cs : List Value) (L : Lay) (h : Nat) (R0 Rr : Dv) (xs : List Evt) (i : Nat) (wr : World) : Prop where
  dp : ∃ R2, Dp (W.alloc (.cells cs.toArray 40)) (W.heap.size + 1) L h (2 * i) (playF R0 (xs.take i)) (2 * i) R2 wr
theorem FailR.box {W : World} {cs : List Value} {R0 Rr : Dv} {xs : List Evt} {i : Nat} {wr : World} (hp : FailR W cs L h R0 Rr xs i wr) : Has wr W.heap.size cs 40 := by
  obtain ⟨R2, h⟩ := hp.dp
  exact (Has.new W cs 40).only (Only.of_below h.b) (by omega)
theorem FailR.below {W : World} {cs : List Value} {R0 Rr : Dv} {xs : List Evt} {i : Nat} {wr : World} (hp : FailR W cs L h R0 Rr xs i wr) : Below W.heap.size W wr := by
  obtain ⟨R2, h⟩ := hp.dp
  exact ((Below.refl W.heap.size W).alloc (Nat.le_refl _) _).trans (h.b.mono (by omega))
/-- The second loop's state. -/
def FailS (w : World) (B : Nat) (L : Lay) (h i : Nat) (Rf : Dv) (wr : World) : Prop := ∃ R R2, Dp w B L h (100 + 2 * i) R (100 + 2 * i) R2 wr ∧ Dead Rf R
theorem Dp.up {T1' T2' : Nat} (hp : Dp w B L h T1 R1 T2 R2 wx) (h1 : T1 ≤ T1') (h2 : T2 ≤ T2') (h3 : T1' ≤ 100000) (h4 : T2' ≤ 100000) : Dp w B L h T1' R1 T2' R2 wx := by
  obtain ⟨F, a, b, c⟩ := hp.ex
  exact ⟨⟨F, a.up h1 h3, b.up h2 h4, c⟩, hp.b, hp.hB⟩
theorem FailS.below {i : Nat} {Rf : Dv} {wr w' : World} (hp : FailS w B L h i Rf wr) (hb : Below wr.heap.size wr w') : FailS w B L h i Rf w' := by
  obtain ⟨R, R2, a, b⟩ := hp
  exact ⟨R, R2, a.below hb, b⟩
theorem Two.dp {n : Nat} (hn1 : 1 ≤ n) (hn2 : n ≤ 4096) (hp : Two w B L h T1 R1 wx) : Calls Try.prog 16 #[.int .i64 (n : Int)] wx fun e w' => ∃ h', e = .returned (.pointer (some ⟨h', 0, none⟩)) ∧ Dp w B L h' T1 R1 0 (newP n) w' := by
  obtain ⟨F, h1, _, h3⟩ := hp.ex
  have hs := hp.b.size
  have hB := hp.hB
  refine (rnew_any wx (F.drop 1) 1 n hn1 hn2).mono ?_
  rintro e w' ⟨h', F', he, r, x, b⟩
  exact ⟨h', he, ⟨F', (h1.retag (F.drop_keep (by omega))).belowX b x, r, fun k hk => by rw [x k (by omega)]; exact h3.drop 1 k hk⟩, hp.b.trans (b.mono (Nat.le_trans hB hs)), hB⟩
set_option maxHeartbeats 8000000 in
set_option maxRecDepth 100000 in
theorem fails_walk (W : World) (lines : Int) (a : Option Addr) (c : Nat) (xs : List Evt) (hr : RunIn W lines a c xs) (n : Int) (hni : i64B n) (ys : List Evt) (hy : ∀ x ∈ ys, x.Fit) (a2 : Option Addr) (c2 : Nat) (hr2 : Rd W (.slice a2 ys.length c2) ys.length (evtCells ys)) (hyl : ys.length ≤ 9223372036854775807) :
    Calls Try.prog 4 #[.agg #[.int .i64 lines, .slice a xs.length c], .int .i64 n, .slice a2 ys.length c2] W fun e w' => e = .returned (.bool true) ∧ Below W.heap.size W w' := by
  have hbe := fun wx => begin_any wx lines hr.l
  have hmn := mod_lit (a := n) (m := 30) (k := 30) rfl (by omega) (by omega) hni rfl
  have hk0 : 0 ≤ n % 30 := by omega
  have hk30 : n % 30 < 30 := by omega
  have hnl : 1 ≤ nLines lines ∧ nLines lines ≤ 6 := by unfold nLines; omega
  have hw0 : Has (W.alloc (.cells #[.int .i64 lines, .slice a xs.length c] 40)) W.heap.size [.int .i64 lines, .slice a xs.length c] 40 := Has.new _ _ _
  have c0 := hw0.cell (o := 0) rfl
  have hxf := hr.f
  have hxr := hr.r
  have hxm := hr.m
  have hlen : (newP (nLines lines)).lines.length = nLines lines := by simp [newP]
  generalize n % 30 = k at *
  generalize nLines lines = nl at *
  replace hbe := Lib.hid hbe
  replace hmn := Lib.hid hmn
  replace hxf := Lib.hid hxf
  replace hxr := Lib.hid hxr
  replace hy := Lib.hid hy
  replace hr2 := Lib.hid hr2
  replace hlen := Lib.hid hlen
  clear hr hw0 hni
  go_enter Try.func4, Try.ntmps4
  go_wp2_with fail
  refine (hbe.out _).mono ?_
  rintro e w1 ⟨L, h0, rfl, t1⟩
  clear hbe c0
  go_wp2_with fail
  refine (awake_any _).mono ?_
  rintro e w2 ⟨rfl, b2⟩
  have t2 := t1.below b2
  have hli : Calls Try.prog 22 #[.pointer (some ⟨L.g, 0, none⟩)] w2 (fun e w' => e = .returned (.int .i64 (nl : Int)) ∧ w2 = w') := by
    obtain ⟨F, h1, _⟩ := t2.ex
    have := lines_any h1
    rw [hlen.out] at this
    exact this
  replace hli := Lib.hid hli
  have hnew := Lib.hid (t2.dp hnl.1 (by omega))
  clear t1 b2 t2
  go_wp2_with fail
  refine hli.out.mono ?_
  rintro e w' ⟨rfl, rfl⟩
  go_wp2_with fail
  refine hnew.out.mono ?_
  rintro e w3 ⟨h, rfl, p3⟩
  clear hli hnew
  go_wp2_with fail
  refine (hmn.out _).mono ?_
  rintro e w' ⟨rfl, rfl⟩
  have harm := p3.dev (fun F hd => arm_any hd k (by omega))
  have hinv : FInv k (armP (newP nl) k) := FInv.arm rfl rfl hk0
  replace harm := Lib.hid harm
  replace hinv := Lib.hid hinv
  clear hmn p3
  go_wp2_with fail
  refine harm.out.mono ?_
  rintro e w4 ⟨rfl, p4⟩
  have q4 : FailR W [.int .i64 lines, .slice a xs.length c] L h (armP (newP nl) k) (newP nl) xs 0 w4 := ⟨_, by simp only [World.size_alloc] at p4; exact p4⟩
  clear p4 harm
  generalize armP (newP nl) k = R0 at *
  go_wp2_with fail
  go_loopw [10] (fun i wr => ∃ j : Nat, j ≤ 40 ∧ j ≤ xs.length ∧ i = .int .i64 j ∧ FailR W [.int .i64 lines, .slice a xs.length c] L h R0 (newP nl) xs j wr) (fun i _ => 40 - (intOf i).toNat)
  case atStart => exact ⟨0, by omega, Nat.zero_le _, rfl, q4⟩
  case round =>
    clear q4
    obtain ⟨j, hj, hjl, rfl, hp⟩ := hrel
    have cb := hp.box.cell (o := 1) rfl
    by_cases hgo : j < xs.length ∧ j < 40
    · obtain ⟨hlt, hj40⟩ := hgo
      have hd1 : decide (j < xs.length) = true := decide_eq_true hlt
      have hd2 : decide ((j : Int) < 40) = true := decide_eq_true (by omega)
      have hd2' : (j : Int) < 40 := by omega
      have hjI : (j : Int) < (xs.length : Int) := by omega
      have hj0 : (0 : Int) ≤ (j : Int) := by omega
      obtain ⟨bl, ol, cl, ea, fa⟩ := (hxr.out.kept hp.below).cells (by omega)
      simp only [Value.slice.injEq, true_and] at ea
      obtain ⟨rfl, e1⟩ := ea
      have hat := get_of_lt evt0 hlt
      have hfx : (xs.getD j evt0).Fit := hxf.out _ (mem_getD evt0 hlt)
      obtain ⟨R2, hdp⟩ := hp.dp
      have hsk : (xs.getD j evt0).kind % 7 = 6 → ∀ o, FailR W [.int .i64 lines, .slice (some ⟨bl, ol, none⟩) xs.length c] L h R0 (newP nl) xs (j + 1) (wr.alloc o) := fun h6 o => by
        refine ⟨R2, ?_⟩
        rw [playF_take R0 xs j evt0 hlt, show doF (playF R0 (xs.take j)) (xs.getD j evt0) = playF R0 (xs.take j) from by unfold doF; rw [if_pos h6]]
        exact (hdp.alloc o).up (by omega) (by omega) (by omega) (by omega)
      have hdo : (xs.getD j evt0).kind % 7 ≠ 6 → ∀ o, Calls Try.prog 25 #[.pointer (some ⟨L.g, 0, none⟩), .pointer (some ⟨h, 0, none⟩), .agg #[.int .i64 (xs.getD j evt0).kind, .int .i64 (xs.getD j evt0).thr, .int .u64 ((xs.getD j evt0).off : Int), .int .u64 ((xs.getD j evt0).old : Int), .int .u64 ((xs.getD j evt0).val : Int), .int .i64 (xs.getD j evt0).n]] (wr.alloc o) (fun e w' => ∃ b, e = .returned (.bool b) ∧ FailR W [.int .i64 lines, .slice (some ⟨bl, ol, none⟩) xs.length c] L h R0 (newP nl) xs (j + 1) w') := fun h6 o => by
        refine ((hdp.alloc o).do (by omega) (by omega) _ hfx).mono ?_
        rintro e w' ⟨b, he, hd⟩
        refine ⟨b, he, ⟨⟨doP R2 (xs.getD j evt0), ?_⟩⟩⟩
        rw [playF_take R0 xs j evt0 hlt, show doF (playF R0 (xs.take j)) (xs.getD j evt0) = doP (playF R0 (xs.take j)) (xs.getD j evt0) from by unfold doF; rw [if_neg h6]]
        exact hd.up (by omega) (by omega) (by omega) (by omega)
      have hmk := mod_lit (a := (xs.getD j evt0).kind) (m := 7) (k := 7) rfl (by omega) (by omega) hfx.k rfl
      generalize xs.getD j evt0 = x at *
      have x0 : wr.cell? ⟨bl, ol + j * 6, none⟩ = _ := fa _ _ (evtCells_get xs j x hat 0 _ rfl)
      have x1 : wr.cell? ⟨bl, ol + j * 6 + 1, none⟩ = _ := fa _ _ (evtCells_get xs j x hat 1 _ rfl)
      have x2 : wr.cell? ⟨bl, ol + j * 6 + 2, none⟩ = _ := fa _ _ (evtCells_get xs j x hat 2 _ rfl)
      have x3 : wr.cell? ⟨bl, ol + j * 6 + 3, none⟩ = _ := fa _ _ (evtCells_get xs j x hat 3 _ rfl)
      have x4 : wr.cell? ⟨bl, ol + j * 6 + 4, none⟩ = _ := fa _ _ (evtCells_get xs j x hat 4 _ rfl)
      have x5 : wr.cell? ⟨bl, ol + j * 6 + 5, none⟩ = _ := fa _ _ (evtCells_get xs j x hat 5 _ rfl)
      replace hat := Lib.hid hat
      replace e1 := Lib.hid e1
      replace hmk := Lib.hid hmk
      by_cases h6 : x.kind % 7 = 6
      · have hs6 := Lib.hid (hsk h6)
        have hb6 : ((x.kind % 7 : Int) != 6) = false := by rw [bne_eq_false_iff_eq]; exact h6
        replace hsk := hs6
        replace h6 := Lib.hid h6
        clear hdo fa hp hdp hfx
        go_wp2_with fail
        refine (hmk.out _).mono ?_
        rintro e w' ⟨rfl, rfl⟩
        clear x0 x1 x2 x3 x4 x5 cb
        go_wp2_with fail
        exact ⟨⟨j + 1, by omega, by omega, by go_num, hsk.out _⟩, by simp [intOf]; omega⟩
      · have hs6 := Lib.hid (hdo h6)
        have hb6 : ((x.kind % 7 : Int) != 6) = true := by rw [bne_iff_ne]; exact h6
        replace h6 := Lib.hid h6
        clear hdo hsk fa hp hdp hfx
        go_wp2_with fail
        refine (hmk.out _).mono ?_
        rintro e w' ⟨rfl, rfl⟩
        clear x0 x1 x2 x3 x4 x5 cb
        go_wp2_with fail
        refine (hs6.out _).mono ?_
        rintro e w5 ⟨b, rfl, p5⟩
        go_wp2_with fail
        exact ⟨⟨j + 1, by omega, by omega, by go_num, p5⟩, by simp [intOf]; omega⟩
    · have hinvj := hinv.out.play (xs.take j)
      obtain ⟨R2, hdp⟩ := hp.dp
      have hbel := hp.below
      replace hdp := hdp.up (T1' := 100) (T2' := 100) (by omega) (by omega) (by omega) (by omega)
      generalize playF R0 (xs.take j) = R at *
      have hexe : (R.exe : Int) ≤ k := by have h1 := hinvj.l; have h2 := hinvj.s; omega
      have heq : R.off = true → (R.exe : Int) = k := fun ho => by have h1 := hinvj.o ho; have h2 := hinvj.s; omega
      have hel := hdp.ok.el
      have hx1 := hdp.quiet (fun F hd => executed_any hd)
      have hx2 := hdp.quiet (fun F hd => off_any hd)
      have hkw : IntKind.u64.wrap k = k := u64_wrap_id _ hk0 (by omega)
      have hdx : decide (k < (R.exe : Int)) = false := decide_eq_false (by omega)
      have hdx' : ¬ k < (R.exe : Int) := by omega
      have hgo' : (decide (j < xs.length) = false) ∨ (decide (j < xs.length) = true ∧ decide ((j : Int) < 40) = false ∧ ¬ (j : Int) < 40) := by
        by_cases h1 : j < xs.length
        · exact .inr ⟨decide_eq_true h1, decide_eq_false (by omega), by omega⟩
        · exact .inl (decide_eq_false h1)
      replace hx1 := Lib.hid hx1
      replace hx2 := Lib.hid hx2
      replace hinv := Lib.hid hinvj
      replace hel := Lib.hid hel
      clear hgo hp hinvj
      cases hoff : R.off with
      | false =>
        rw [hoff] at hx2
        replace heq := Lib.hid heq
        replace hoff := Lib.hid hoff
        clear hdp
        rcases hgo' with hd1 | ⟨hd1, hd2, hd2'⟩
        all_goals
          go_wp2_with fail
          refine hx1.out.mono ?_
          rintro e w' ⟨rfl, rfl⟩
          go_wp2_with fail
          refine hx2.out.mono ?_
          rintro e w' ⟨rfl, rfl⟩
          go_wp2_with fail
          refine hx2.out.mono ?_
          rintro e w' ⟨rfl, rfl⟩
          go_wp2_with fail
          go_ret
          exact ⟨rfl, hbel⟩
      | true =>
        have hek := heq hoff
        rw [hoff] at hx2
        rw [hek] at hx1
        replace hek := Lib.hid hek
        have hdead := Dead.refl hoff
        have hfs : FailS (W.alloc (.cells #[.int .i64 lines, .slice a xs.length c] 40)) (W.heap.size + 1) L h 0 R wr := ⟨R, R2, hdp, hdead⟩
        have sCur : ∀ wx, Below wr.heap.size wr wx → Calls Try.prog 28 #[.pointer (some ⟨L.g, 0, none⟩)] wx (SPost wx (strOf (bytesL R.curW))) := fun wx hB => (hdp.below hB).cur
        have sPer : ∀ wx, Below wr.heap.size wr wx → Calls Try.prog 20 #[.pointer (some ⟨L.g, 0, none⟩)] wx (SPost wx (strOf (bytesL R.perW))) := fun wx hB => (hdp.below hB).per
        have fCur : ∀ i wx, FailS (W.alloc (.cells #[.int .i64 lines, .slice a xs.length c] 40)) (W.heap.size + 1) L h i R wx → Calls Try.prog 28 #[.pointer (some ⟨L.g, 0, none⟩)] wx (SPost wx (strOf (bytesL R.curW))) := fun i wx ⟨R', R2', hp, hd⟩ => by rw [← hd.cur]; exact hp.cur
        have fPer : ∀ i wx, FailS (W.alloc (.cells #[.int .i64 lines, .slice a xs.length c] 40)) (W.heap.size + 1) L h i R wx → Calls Try.prog 20 #[.pointer (some ⟨L.g, 0, none⟩)] wx (SPost wx (strOf (bytesL R.perW))) := fun i wx ⟨R', R2', hp, hd⟩ => by rw [← hd.per]; exact hp.per
        have fOff : ∀ i wx, FailS (W.alloc (.cells #[.int .i64 lines, .slice a xs.length c] 40)) (W.heap.size + 1) L h i R wx → Calls Try.prog 27 #[.pointer (some ⟨L.g, 0, none⟩)] wx (fun e w' => e = .returned (.bool true) ∧ wx = w') := fun i wx ⟨R', R2', hp, hd⟩ => by
          have := hp.quiet (fun F hd => off_any hd); rw [hd.o] at this; exact this
        have fExe : ∀ i wx, FailS (W.alloc (.cells #[.int .i64 lines, .slice a xs.length c] 40)) (W.heap.size + 1) L h i R wx → Calls Try.prog 26 #[.pointer (some ⟨L.g, 0, none⟩)] wx (fun e w' => e = .returned (.int .u64 k) ∧ wx = w') := fun i wx ⟨R', R2', hp, hd⟩ => by
          have := hp.quiet (fun F hd => executed_any hd); rw [hd.x, hek.out] at this; exact this
        have fBel : ∀ i wx, FailS (W.alloc (.cells #[.int .i64 lines, .slice a xs.length c] 40)) (W.heap.size + 1) L h i R wx → Below W.heap.size W wx := fun i wx ⟨R', R2', hp, hd⟩ => ((Below.refl W.heap.size W).alloc (Nat.le_refl _) _).trans (hp.b.mono (by omega))
        generalize strOf (bytesL R.curW) = sc at *
        generalize strOf (bytesL R.perW) = sp at *
        replace sCur := Lib.hid sCur
        replace sPer := Lib.hid sPer
        replace fCur := Lib.hid fCur
        replace fPer := Lib.hid fPer
        replace fOff := Lib.hid fOff
        replace fExe := Lib.hid fExe
        replace fBel := Lib.hid fBel
        replace heq := Lib.hid heq
        replace hoff := Lib.hid hoff
        replace hdead := Lib.hid hdead
        have hB0 : Below wr.heap.size wr wr := Below.refl _ _
        clear hdp
        rcases hgo' with hd1 | ⟨hd1, hd2, hd2'⟩
        all_goals
          go_wp2_with fail
          refine hx1.out.mono ?_
          rintro e w' ⟨rfl, rfl⟩
          go_wp2_with fail
          refine hx2.out.mono ?_
          rintro e w' ⟨rfl, rfl⟩
          go_wp2_with fail
          refine hx1.out.mono ?_
          rintro e w' ⟨rfl, rfl⟩
          go_wp2_with fail
          refine hx2.out.mono ?_
          rintro e w' ⟨rfl, rfl⟩
          go_wp2_with fail
          go_cut [12, 13] (fun v u wx => v = .string sc ∧ u = .string sp ∧ Below wr.heap.size wr wx)
          case first =>
            go_region_with ((first
              | (go_at_call 28; (with_reducible refine (sCur.out _ ?_).mono ?_); (first | exact hB0 | exact Fr.drew hB0); rintro e wa ⟨va, rfl, sA, bA⟩; have kA : Below wr.heap.size wr wa := (by first | exact Fr.step hB0 bA | exact Fr.step (Fr.drew hB0) bA); have cA := sA _ (Below.refl _ _); have cAd := sA _ (Fr.drew (Below.refl _ _)))
              | (go_at_call 20; (with_reducible refine (sPer.out _ ?_).mono ?_); (first | exact kA | exact Fr.drew kA); rintro e wb ⟨vb, rfl, sB, bB⟩; have kB : Below wr.heap.size wr wb := (by first | exact Fr.step kA bB | exact Fr.step (Fr.drew kA) bB); have sA2 := (by first | exact sA.up bB | exact (sA.up (Fr.drew (Below.refl _ _))).up bB); have cB := sB _ (Below.refl _ _); have cBd := sB _ (Fr.drew (Below.refl _ _)); have cA2 := sA2 _ (Below.refl _ _); have cA2d := sA2 _ (Fr.drew (Below.refl _ _)))))
            all_goals
              have kE : Below wr.heap.size wr wb := kB
              clear sA sB sA2 bA bB
              go_wp2_with fail
              go_meet
              exact ⟨rfl, rfl, by first | exact kE | exact Fr.drew kE⟩
          case rest =>
            obtain ⟨rfl, rfl, kX⟩ := hcut
            rename_i wx _
            have f0 := hfs.below kX
            clear hfs kX sCur sPer hx1 hx2 cb
            go_wp2_with fail
            go_loopw [14] (fun i wq => ∃ m : Nat, m ≤ 12 ∧ m ≤ ys.length ∧ i = .int .i64 m ∧ FailS (W.alloc (.cells #[.int .i64 lines, .slice a xs.length c] 40)) (W.heap.size + 1) L h m R wq) (fun i _ => 12 - (intOf i).toNat)
            case atStart => exact ⟨0, by omega, Nat.zero_le _, rfl, f0⟩
            case round =>
              clear f0
              obtain ⟨m, hm, hml, rfl, hf⟩ := hrel
              by_cases hgo : m < ys.length ∧ m < 12
              · obtain ⟨hlt, hm12⟩ := hgo
                have hd3 : decide (m < ys.length) = true := decide_eq_true hlt
                have hd4 : decide ((m : Int) < 12) = true := decide_eq_true (by omega)
                have hd4' : (m : Int) < 12 := by omega
                have hmI : (m : Int) < (ys.length : Int) := by omega
                have hm0 : (0 : Int) ≤ (m : Int) := by omega
                have hbq := fBel.out _ _ hf
                have hcell : ∀ wz, Below W.heap.size W wz → ∃ bl ol cl, Value.slice a2 ys.length c2 = .slice (some ⟨bl, ol, none⟩) ys.length cl ∧ ∀ j u, (evtCells ys)[j]? = some u → wz.cell? ⟨bl, ol + j, none⟩ = some u := fun wz hB => (hr2.out.kept hB).cells (by omega)
                obtain ⟨bl, ol, cl, ea, fa⟩ := hcell _ hbq
                simp only [Value.slice.injEq, true_and] at ea
                obtain ⟨rfl, e1⟩ := ea
                have fa2 : ∀ wz, Below W.heap.size W wz → ∀ j u, (evtCells ys)[j]? = some u → wz.cell? ⟨bl, ol + j, none⟩ = some u := fun wz hB => by
                  obtain ⟨bl', ol', cl', eb, fb⟩ := hcell wz hB
                  simp only [Value.slice.injEq, Option.some.injEq, Addr.mk.injEq, true_and, and_true] at eb
                  obtain ⟨⟨rfl, rfl⟩, _⟩ := eb
                  exact fb
                have hat := get_of_lt evt0 hlt
                have hfx : (ys.getD m evt0).Fit := hy.out _ (mem_getD evt0 hlt)
                generalize ys.getD m evt0 = x at *
                have hdo : Calls Try.prog 25 #[.pointer (some ⟨L.g, 0, none⟩), .pointer (some ⟨h, 0, none⟩), .agg #[.int .i64 x.kind, .int .i64 x.thr, .int .u64 (x.off : Int), .int .u64 (x.old : Int), .int .u64 (x.val : Int), .int .i64 x.n]] wr (fun e w' => ∃ b, e = .returned (.bool b) ∧ FailS (W.alloc (.cells #[.int .i64 lines, .slice a xs.length c] 40)) (W.heap.size + 1) L h (m + 1) R w' ∧
                    Calls Try.prog 17 #[.pointer (some ⟨L.g, 0, none⟩), .int .i64 ((x.t : Nat) : Int)] w' (fun e w'' => e = .returned (.pointer (some ⟨L.tb x.t, 0, none⟩)) ∧ w' = w'') ∧ ∃ v : Nat, (x.kind % 7 < 5 → v ≠ 0) ∧ Calls Try.prog 29 #[.pointer (some ⟨L.tb x.t, 0, none⟩)] w' (fun e w'' => e = .returned (.int .i64 (v : Int)) ∧ w' = w'')) := by
                  obtain ⟨R', R2', hp, hd⟩ := hf
                  refine (hp.do (by omega) (by omega) x hfx).mono ?_
                  rintro e w' ⟨b, he, hp'⟩
                  obtain ⟨k1, k2⟩ := do_dead hd.o hp.ok.el x
                  exact ⟨b, he, ⟨_, _, hp'.up (by omega) (by omega) (by omega) (by omega), hd.trans k1⟩, hp'.quiet (fun F hd => thread_in hd x.t_lt), _, k2, hp'.quiet (fun F hd => err_any hd x.t_lt)⟩
                have hmk := mod_lit (a := x.kind) (m := 7) (k := 7) rfl (by omega) (by omega) hfx.k rfl
                have hmt := mod_lit (a := x.thr) (m := 8) (k := 8) rfl (by omega) (by omega) hfx.t x.t_int.symm
                have hxk := fun wz (hB : Below W.heap.size W wz) => fa2 wz hB _ _ (evtCells_get ys m x hat 0 _ rfl)
                have hxt := fun wz (hB : Below W.heap.size W wz) => fa2 wz hB _ _ (evtCells_get ys m x hat 1 _ rfl)
                have x0 : wr.cell? ⟨bl, ol + m * 6, none⟩ = _ := fa _ _ (evtCells_get ys m x hat 0 _ rfl)
                have x1 : wr.cell? ⟨bl, ol + m * 6 + 1, none⟩ = _ := fa _ _ (evtCells_get ys m x hat 1 _ rfl)
                have x2 : wr.cell? ⟨bl, ol + m * 6 + 2, none⟩ = _ := fa _ _ (evtCells_get ys m x hat 2 _ rfl)
                have x3 : wr.cell? ⟨bl, ol + m * 6 + 3, none⟩ = _ := fa _ _ (evtCells_get ys m x hat 3 _ rfl)
                have x4 : wr.cell? ⟨bl, ol + m * 6 + 4, none⟩ = _ := fa _ _ (evtCells_get ys m x hat 4 _ rfl)
                have x5 : wr.cell? ⟨bl, ol + m * 6 + 5, none⟩ = _ := fa _ _ (evtCells_get ys m x hat 5 _ rfl)
                replace hat := Lib.hid hat
                replace e1 := Lib.hid e1
                replace hmk := Lib.hid hmk
                replace hmt := Lib.hid hmt
                replace hdo := Lib.hid hdo
                replace hxk := Lib.hid hxk
                replace hxt := Lib.hid hxt
                have hk5 : (decide (x.kind % 7 < 5) = true ∧ x.kind % 7 < 5) ∨ (decide (x.kind % 7 < 5) = false ∧ ¬ x.kind % 7 < 5) := by
                  by_cases h5 : x.kind % 7 < 5
                  · exact .inl ⟨decide_eq_true h5, h5⟩
                  · exact .inr ⟨decide_eq_false h5, h5⟩
                generalize x.kind % 7 = r at *
                replace hk5 := Lib.hid hk5
                clear fa fa2 hcell hf hfx
                go_wp2_with fail
                refine hdo.out.mono ?_
                rintro e w5 ⟨b, rfl, f5, hth, v, hv, herr⟩
                clear x0 x1 x2 x3 x4 x5
                have b5 := fBel.out _ _ f5
                have y0 : w5.cell? ⟨bl, ol + m * 6, none⟩ = _ := hxk.out _ b5
                have y1 : w5.cell? ⟨bl, ol + m * 6 + 1, none⟩ = _ := hxt.out _ b5
                replace hth := Lib.hid hth
                replace herr := Lib.hid herr
                replace hv := Lib.hid hv
                go_wp2_with fail
                refine (hmt.out _).mono ?_
                rintro e w' ⟨rfl, rfl⟩
                go_wp2_with fail
                refine hth.out.mono ?_
                rintro e w' ⟨rfl, rfl⟩
                go_wp2_with fail
                refine (hmk.out _).mono ?_
                rintro e w' ⟨rfl, rfl⟩
                rcases hk5.out with ⟨q1, q2⟩ | ⟨q1, q2⟩
                · have hv0 : ((v : Int) == 0) = false := by have := hv.out q2; rw [beq_eq_false_iff_ne]; omega
                  go_wp2_with fail
                  refine herr.out.mono ?_
                  rintro e w' ⟨rfl, rfl⟩
                  go_wp2_with fail
                  exact ⟨⟨m + 1, by omega, by omega, by go_num, f5⟩, by simp [intOf]; omega⟩
                · go_wp2_with fail
                  exact ⟨⟨m + 1, by omega, by omega, by go_num, f5⟩, by simp [intOf]; omega⟩
              · have hbel2 := fBel.out _ _ hf
                have g1 := fOff.out _ _ hf
                have g2 := fExe.out _ _ hf
                have g3 := fCur.out _ _ hf
                have g4 := fun wx hB => fPer.out m wx (hf.below hB)
                have hgo2 : (decide (m < ys.length) = false) ∨ (decide (m < ys.length) = true ∧ decide ((m : Int) < 12) = false ∧ ¬ (m : Int) < 12) := by
                  by_cases h1 : m < ys.length
                  · exact .inr ⟨decide_eq_true h1, decide_eq_false (by omega), by omega⟩
                  · exact .inl (decide_eq_false h1)
                replace g1 := Lib.hid g1
                replace g2 := Lib.hid g2
                replace g3 := Lib.hid g3
                replace g4 := Lib.hid g4
                clear hgo hf
                rcases hgo2 with hd3 | ⟨hd3, hd4, hd4'⟩
                all_goals
                  go_wp2_with fail
                  refine g1.out.mono ?_
                  rintro e w' ⟨rfl, rfl⟩
                  go_wp2_with fail
                  refine g2.out.mono ?_
                  rintro e w' ⟨rfl, rfl⟩
                  go_wp2_with fail
                  refine g3.out.mono ?_
                  rintro e wa ⟨va, rfl, sA, bA⟩
                  have cA := sA _ (Below.refl _ _)
                  go_wp2_with fail
                  refine (g4.out _ bA).mono ?_
                  rintro e wb ⟨vb, rfl, sB, bB⟩
                  have cB := sB _ (Below.refl _ _)
                  have kE := hbel2.trans ((Fr.step bA bB).mono hbel2.size)
                  clear sA sB bA bB
                  go_wp2_with fail
                  go_ret
                  exact ⟨rfl, kE⟩
end Go.Proofs.Ytkmhanjddkplbaa
