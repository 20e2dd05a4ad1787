/- DeviceFences: the walk. -/
import Derived.Test.YtkmhanjddkplbaaG7
import Derived.Test.YtkmhanjddkplbaaG8
import Derived.Test.YtkmhanjddkplbaaP2
namespace Go.Proofs.Ytkmhanjddkplbaa
open Go.RowKit Go.Maps
variable {w wx : World} {B h T T1 T2 : Nat} {R R1 R2 : Dv} {L : Lay}

theorem Dp.ref {T : Nat} {R : Dv} {f : Nat} {args : Array Value} {v : Value} (hp : Dp w B L h T1 R1 T2 R2 wx) (hc : ∀ F, RefSt wx F 1 h T2 R2 → Calls Try.prog f args wx (RPost wx F 1 h T R v)) :
    Calls Try.prog f args wx fun e w' => e = .returned v ∧ Dp w B L h T1 R1 T R w' := by
  obtain ⟨F, h1, h2, h3⟩ := hp.ex
  have hBx := Nat.le_trans hp.hB hp.b.size
  exact (hc F h2).mono fun e w' ⟨F', he, d, hs⟩ => ⟨he, ⟨F', h1.other hs (by omega), d, h3.step hs hBx⟩, hp.b.trans (h3.below hs hBx), hp.hB⟩
theorem Two.toDp (hp : Two w B L h T R wx) : Dp w B L h T R T R wx := ⟨hp.ex, hp.b, hp.hB⟩
theorem Dp.toTwo (hp : Dp w B L h T R T R wx) : Two w B L h T R wx := ⟨hp.ex, hp.b, hp.hB⟩
/-- The device, the reference's, and the values that were collected. -/
structure FenR (w : World) (B : Nat) (L : Lay) (h T : Nat) (R : Dv) (V : List Nat) (a : Option Addr) (c : Nat) (wx : World) : Prop where
  ex : ∃ F, DevSt wx F 0 L T R ∧ RefSt wx F 1 h T R ∧ Free F B ∧ ∀ k, Value.ownBlock (.slice a V.length c) = some k → F k = none
  own : wx.ownsRow 0 46 1 (.slice a V.length c) V.length (u64s V)
  nb : ∀ k, Value.ownBlock (.slice a V.length c) = some k → B ≤ k
  b : Below B w wx
  hB : B ≤ w.heap.size
variable {V : List Nat} {a : Option Addr} {c : Nat}
theorem FenR.below {w' : World} (hp : FenR w B L h T R V a c wx) (hb : Below wx.heap.size wx w') : FenR w B L h T R V a c w' := by
  obtain ⟨F, h1, h2, h3, h4⟩ := hp.ex
  exact ⟨⟨F, h1.below hb, h2.below hb, h3, h4⟩, ownsRow_only hp.own (Only.of_below hb) (fun k hk => Nat.not_le.2 (ownsRow_lt hp.own hk)), hp.nb, hp.b.trans (hb.mono (Nat.le_trans hp.hB hp.b.size)), hp.hB⟩
theorem FenR.drewN (hp : FenR w B L h T R V a c wx) (n : Nat) : FenR w B L h T R V a c (wx.drewN n) := hp.below (below_drewN (Below.refl _ _) n)
theorem FenR.ok (hp : FenR w B L h T R V a c wx) : R.Ok T := by obtain ⟨F, h1, _⟩ := hp.ex; exact h1.ok
theorem FenR.two (hp : FenR w B L h T R V a c wx) : Two w B L h T R wx := by
  obtain ⟨F, h1, h2, h3, _⟩ := hp.ex; exact ⟨⟨F, h1, h2, h3⟩, hp.b, hp.hB⟩
theorem FenR.same (hp : FenR w B L h T R V a c wx) : Calls Try.prog 15 #[.pointer (some ⟨L.g, 0, none⟩), .pointer (some ⟨h, 0, none⟩)] wx fun e w' => e = .returned (.bool true) ∧ FenR w B L h T R V a c w' := by
  obtain ⟨F, h1, h2, _⟩ := hp.ex
  exact (same_any h1 h2).mono fun e w' ⟨he, hb⟩ => ⟨he, hp.below hb⟩
theorem FenR.do (hp : FenR w B L h T R V a c wx) (hT : T + 2 ≤ 100000) (x : Evt) (hx : x.Fit) :
    Calls Try.prog 25 #[.pointer (some ⟨L.g, 0, none⟩), .pointer (some ⟨h, 0, none⟩), .agg #[.int .i64 x.kind, .int .i64 x.thr, .int .u64 (x.off : Int), .int .u64 (x.old : Int), .int .u64 (x.val : Int), .int .i64 x.n]] wx fun e w' => e = .returned (.bool true) ∧ FenR w B L h (T + 2) (doP R x) V a c w' := by
  obtain ⟨F, h1, h2, h3, h4⟩ := hp.ex
  have hBx := Nat.le_trans hp.hB hp.b.size
  refine (do_any h1 h2 (by omega) hT x hx).mono fun e w' ⟨F', he, d1, d2, hs⟩ => ⟨he, ⟨F', d1, d2, h3.step2 hs hBx, fun k hk => (hs.ext k (ownsRow_lt hp.own hk)).trans (h4 k hk)⟩, ownsRow_only hp.own hs.only ?_, hp.nb, hp.b.trans (h3.below2 hs hBx), hp.hB⟩
  rintro k hk (⟨r, s⟩ | ⟨r, s⟩) <;> (rw [h4 k hk] at s; cases s)
/-- One more value. -/
theorem FenR.app {w' : World} {sa : Option Addr} {cap v : Nat} (hp : FenR w B L h T R V a c wx) (own : w'.ownsRow 0 46 1 (.slice sa (V.length + 1) cap) (V.length + 1) (u64s V ++ [.int .u64 (v : Int)])) (only : Only (fun k => Value.ownBlock (.slice a V.length c) = some k) wx w')
    (fresh : ∀ k, Value.ownBlock (.slice sa (V.length + 1) cap) = some k → Value.ownBlock (.slice a V.length c) = some k ∨ wx.heap.size ≤ k) : FenR w B L h T R (V ++ [v]) sa cap w' := by
  obtain ⟨F, h1, h2, h3, h4⟩ := hp.ex
  have hsz := hp.b.size
  have hB := hp.hB
  have hl : (V ++ [v]).length = V.length + 1 := by simp
  have d1 := h1.trim
  have d2 : RefSt wx (F.trim wx) 1 h T R := h2.kept (Only.refl (fun _ => False) _) (F.trim_ext wx) (fun _ _ s => s.elim)
  have hn : ∀ k, Value.ownBlock (.slice a V.length c) = some k → F.trim wx k = none := fun k hk => by rw [F.trim_ext wx k (ownsRow_lt hp.own hk)]; exact h4 k hk
  refine ⟨⟨F.trim wx, d1.kept only (Ext.refl _ _) (fun k r s e => by rw [hn k s] at e; cases e), d2.kept only (Ext.refl _ _) (fun k r s e => by rw [hn k s] at e; cases e), fun k hk => by rw [F.trim_ext wx k (by omega)]; exact h3 k hk, ?_⟩, ?_, ?_, ?_, hB⟩
  · intro k hk
    rw [hl] at hk
    rcases fresh k hk with h5 | h5
    · exact hn k h5
    · exact F.trim_new wx h5
  · rw [hl]
    have : u64s (V ++ [v]) = u64s V ++ [.int .u64 (v : Int)] := by simp [u64s]
    rw [this]; exact own
  · intro k hk
    rw [hl] at hk
    rcases fresh k hk with h5 | h5
    · exact hp.nb k h5
    · omega
  · exact hp.b.trans (only.below (by omega) fun k _ s => hp.nb k s)
/-- The first value. -/
theorem Two.fen (hp : Two w B L h T R wx) (v : Nat) : FenR w B L h T R [v] (some ⟨wx.heap.size, 0, none⟩) 1 (wx.alloc (.cells #[.int .u64 (v : Int)] 46)) := by
  obtain ⟨F, h1, h2, h3⟩ := hp.ex
  have hsz := hp.b.size
  have hB := hp.hB
  have d2 : RefSt wx (F.trim wx) 1 h T R := h2.kept (Only.refl (fun _ => False) _) (F.trim_ext wx) (fun _ _ s => s.elim)
  refine ⟨⟨F.trim wx, h1.trim.alloc _, d2.alloc _, fun k hk => by rw [F.trim_ext wx k (by omega)]; exact h3 k hk, ?_⟩, (Has.new wx [.int .u64 (v : Int)] 46).own (n := 1) (cap := 1) rfl (by unfold maxLen; omega) rfl, ?_, hp.b.alloc (by omega) _, hB⟩
  · intro k hk
    simp only [Value.ownBlock, Option.some.injEq] at hk
    exact F.trim_new wx (by omega)
  · intro k hk
    simp only [Value.ownBlock, Option.some.injEq] at hk
    omega
def FenL (w : World) (B : Nat) (L : Lay) (h n off k : Nat) (vv : Value) (wx : World) : Prop :=
  ∃ (R : Dv) (V : List Nat) (a : Option Addr) (c : Nat), vv = .slice a V.length c ∧ FenR w B L h (55 + 2 * k) R V a c wx ∧ InV R off V ∧ R.lines.length = n ∧ V.length = k + 1
def fOff (R : Dv) (off : Nat) : Nat := off % (64 * R.lines.length) / 8 * 8
theorem fOff_ok {R : Dv} {T off : Nat} (hok : R.Ok T) : fOff R off % 8 = 0 ∧ fOff R off < 64 * R.lines.length := by
  have h1 := hok.n1
  have h2 : off % (64 * R.lines.length) < 64 * R.lines.length := Nat.mod_lt _ (by omega)
  unfold fOff
  omega
set_option maxHeartbeats 8000000 in
set_option maxRecDepth 100000 in
theorem fences_walk (W : World) (lines : Int) (a : Option Addr) (c : Nat) (xs : List Evt) (hr : RunIn W lines a c xs) (x : Evt) (hx : x.Fit) (ys : List Evt) (hy : ∀ x ∈ ys, x.Fit) (a2 : Option Addr) (c2 : Nat) (hr2 : Rd W (.slice a2 ys.length c2) ys.length (evtCells ys)) (hyl : ys.length ≤ 9223372036854775807) :
    Calls Try.prog 7 #[.agg #[.int .i64 lines, .slice a xs.length c], .agg #[.int .i64 x.kind, .int .i64 x.thr, .int .u64 (x.off : Int), .int .u64 (x.old : Int), .int .u64 (x.val : Int), .int .i64 x.n], .slice a2 ys.length c2] W fun e w' => e = .returned (.bool true) ∧ Below W.heap.size W w' := by
  have hb0 : Below W.heap.size W (W.alloc (.cells #[.int .i64 lines, .slice a xs.length c] 40)) := (Below.refl _ _).alloc (Nat.le_refl _) _
  have hb1 : Below W.heap.size W ((W.alloc (.cells #[.int .i64 lines, .slice a xs.length c] 40)).alloc (.cells #[.int .i64 x.kind, .int .i64 x.thr, .int .u64 (x.off : Int), .int .u64 (x.old : Int), .int .u64 (x.val : Int), .int .i64 x.n] 48)) := hb0.alloc (by simp) _
  have hpl := hr.play hb1 25 25 rfl (by omega)
  have hmt := mod_lit (a := x.thr) (m := 8) (k := 8) rfl (by omega) (by omega) hx.t x.t_int.symm
  have hev : Has ((W.alloc (.cells #[.int .i64 lines, .slice a xs.length c] 40)).alloc (.cells #[.int .i64 x.kind, .int .i64 x.thr, .int .u64 (x.off : Int), .int .u64 (x.old : Int), .int .u64 (x.val : Int), .int .i64 x.n] 48)) (W.heap.size + 1) x.cells 48 := by
    have := Has.new (W.alloc (.cells #[.int .i64 lines, .slice a xs.length c] 40)) x.cells 48
    rw [World.size_alloc] at this
    exact this
  have hrn := ((Has.new W [.int .i64 lines, .slice a xs.length c] 40).alloc (.cells #[.int .i64 x.kind, .int .i64 x.thr, .int .u64 (x.off : Int), .int .u64 (x.old : Int), .int .u64 (x.val : Int), .int .i64 x.n] 48))
  have c0 := hrn.cell (o := 0) rfl
  have c1 := hrn.cell (o := 1) rfl
  have ho := hx.o
  have hv := hx.v
  have ht8 := x.t_lt
  generalize playP (newP (nLines lines)) (xs.take 25) = R at *
  replace hpl := Lib.hid hpl
  replace hmt := Lib.hid hmt
  replace hev := Lib.hid hev
  replace hy := Lib.hid hy
  replace hr2 := Lib.hid hr2
  have hbS : Below (W.heap.size + 2) ((W.alloc (.cells #[.int .i64 lines, .slice a xs.length c] 40)).alloc (.cells #[.int .i64 x.kind, .int .i64 x.thr, .int .u64 (x.off : Int), .int .u64 (x.old : Int), .int .u64 (x.val : Int), .int .i64 x.n] 48)) ((W.alloc (.cells #[.int .i64 lines, .slice a xs.length c] 40)).alloc (.cells #[.int .i64 x.kind, .int .i64 x.thr, .int .u64 (x.off : Int), .int .u64 (x.old : Int), .int .u64 (x.val : Int), .int .i64 x.n] 48)) := Below.refl _ _
  clear hr hb0 hrn hbS
  go_enter Try.func7, Try.ntmps7
  go_wp2_with fail
  refine hpl.out.mono ?_
  rintro e w1 ⟨L, h, rfl, t1⟩
  simp only [World.size_alloc] at t1
  clear hpl c0 c1
  go_wp2_with fail
  refine (awake_any _).mono ?_
  rintro e w2 ⟨rfl, b2⟩
  have t2 := t1.below b2
  have hev2 := hev.out.only (Only.of_below t2.b) (by omega)
  have v1 := hev2.cell (o := 1) rfl
  have v2 := hev2.cell (o := 2) rfl
  clear t1 b2
  go_wp2_with fail
  refine (hmt.out _).mono ?_
  rintro e w' ⟨rfl, rfl⟩
  clear v1 hmt
  have hok := t2.ok
  have hn1 := hok.n1
  have hn2 := hok.n2
  obtain ⟨f8, flt⟩ := fOff_ok (off := x.off) hok
  have qSiz : Qc w2 35 #[.pointer (some ⟨L.g, 0, none⟩)] _ := qc_of fun n => by
    obtain ⟨F, h1, _⟩ := (t2.drewN n).ex
    exact size_any h1
  replace qSiz := Lib.hid qSiz
  have hoe : IntKind.u64.wrap (IntKind.u64.wrap (((x.off : Int) % ((R.lines.length : Int) * 64)).tdiv 8) * 8) = ((fOff R x.off : Nat) : Int) := by
    have h1 : ((x.off : Int) % ((R.lines.length : Int) * 64)) = ((x.off % (64 * R.lines.length) : Nat) : Int) := by rw [Int.natCast_emod]; congr 1; omega
    have h2 : x.off % (64 * R.lines.length) < 64 * R.lines.length := Nat.mod_lt _ (by omega)
    rw [h1, Int.tdiv_eq_ediv_of_nonneg (by omega), u64_wrap_id (((x.off % (64 * R.lines.length) : Nat) : Int) / 8) (by omega) (by omega), u64_wrap_id _ (by omega) (by omega)]
    unfold fOff; omega
  have hstart := fence_start hok (v := x.val) ht8 f8 flt
  generalize fOff R x.off = off at *
  have hlt64 : off < 18446744073709551616 := by omega
  have hz : ¬ (R.lines.length : Int) * 64 = 0 := by omega
  go_wp2_with fail
  go_quiet (((go_at_call 35; exact qSiz.out _)))
  have t3 := t2.drewN nq
  have hev3 := hev2.drewN nq
  clear t2 hev2 v2 qSiz hoe hz
  generalize w2.drewN nq = w3 at *
  generalize (W.alloc (.cells #[.int .i64 lines, .slice a xs.length c] 40)).alloc (.cells #[.int .i64 x.kind, .int .i64 x.thr, .int .u64 (x.off : Int), .int .u64 (x.old : Int), .int .u64 (x.val : Int), .int .i64 x.n] 48) = W1 at *
  have hth := t3.toDp.quiet (fun F hd => thread_in hd ht8)
  have a1 := t3.toDp.dev (fun F hd => store_any hd (by omega) ht8 hlt64 hv)
  have hl3 : (fenceP (flushP (storeP R x.t off x.val) x.t off) x.t).lines.length = R.lines.length := by rw [fenceP_len, flushP_len, storeP_len]
  have v4 := hev3.cell (o := 4) rfl
  generalize x.t = t at *
  generalize hS1 : storeP R t off x.val = S1 at *
  generalize hS2 : flushP S1 t off = S2 at *
  generalize hS3 : fenceP S2 t = S3 at *
  replace hS1 := Lib.hid hS1
  replace hS2 := Lib.hid hS2
  replace hS3 := Lib.hid hS3
  replace hl3 := Lib.hid hl3
  replace hth := Lib.hid hth
  replace a1 := Lib.hid a1
  replace hstart := Lib.hid hstart
  replace f8 := Lib.hid f8
  replace hev := Lib.hid hev.out
  go_wp2_with fail
  refine hth.out.mono ?_
  rintro e w' ⟨rfl, rfl⟩
  go_wp2_with fail
  refine a1.out.mono ?_
  rintro e w4 ⟨rfl, p4⟩
  have a2 := p4.dev (fun F hd => flush_any hd (by omega) ht8 hlt64)
  rw [hS2.out] at a2
  replace a2 := Lib.hid a2
  clear a1 hth hev3 v4 t3 p4
  go_wp2_with fail
  refine a2.out.mono ?_
  rintro e w5 ⟨rfl, p5⟩
  have a3 := p5.dev (fun F hd => fence_any hd (by omega) ht8)
  rw [hS3.out] at a3
  replace a3 := Lib.hid a3
  clear a2 p5
  go_wp2_with fail
  refine a3.out.mono ?_
  rintro e w6 ⟨rfl, p6⟩
  have a4 := p6.ref (fun F hd => rstore_any hd (by omega) ht8 hlt64 hv)
  rw [hS1.out] at a4
  have v4 := (hev.out.only (Only.of_below p6.b) (by omega)).cell (o := 4) rfl
  replace a4 := Lib.hid a4
  clear a3 p6
  go_wp2_with fail
  refine a4.out.mono ?_
  rintro e w7 ⟨rfl, p7⟩
  have a5 := p7.ref (fun F hd => rflush_any hd (by omega) ht8 hlt64)
  rw [hS2.out] at a5
  replace a5 := Lib.hid a5
  clear a4 p7 v4
  go_wp2_with fail
  refine a5.out.mono ?_
  rintro e w8 ⟨rfl, p8⟩
  have a6 := p8.ref (fun F hd => rfence_any hd (by omega) ht8)
  rw [hS3.out] at a6
  replace a6 := Lib.hid a6
  clear a5 p8
  go_wp2_with fail
  refine a6.out.mono ?_
  rintro e w9 ⟨rfl, p9⟩
  have a7 := p9.toTwo.same
  replace a7 := Lib.hid a7
  clear a6 p9
  go_wp2_with fail
  refine a7.out.mono ?_
  rintro e w10 ⟨rfl, t10⟩
  have hoffc := t10.toDp.quiet (fun F hd => off_any hd)
  have kE := hb1.trans (t10.b.mono (by omega))
  have hev10 := hev.out.only (Only.of_below t10.b) (by omega)
  have v4 := hev10.cell (o := 4) rfl
  replace hoffc := Lib.hid hoffc
  cases hoff : S3.off with
  | true =>
    rw [hoff] at hoffc
    replace hoff := Lib.hid hoff
    clear t10 hev10 v4
    go_wp2_with fail
    refine hoffc.out.mono ?_
    rintro e w' ⟨rfl, rfl⟩
    go_wp2_with fail
    go_ret
    exact ⟨rfl, kE⟩
  | false =>
    rw [hoff] at hoffc
    have hV := hstart.out hoff
    replace hoff := Lib.hid hoff
    have hF := t10.fen x.val
    have f0 : FenL W1 (W.heap.size + 2) L h R.lines.length off 0 (.slice (some ⟨w10.heap.size, 0, none⟩) 1 1) (w10.alloc (.cells #[.int .u64 (x.val : Int)] 46)) := ⟨_, _, _, _, rfl, hF, hV, hl3.out, rfl⟩
    clear hF hV t10 hev10 hstart a7
    go_wp2_with fail
    refine hoffc.out.mono ?_
    rintro e w' ⟨rfl, rfl⟩
    go_wp2_with fail
    go_loopw [12, 13] (fun vv i wr => ∃ k : Nat, k ≤ 12 ∧ k ≤ ys.length ∧ i = .int .i64 k ∧ FenL W1 (W.heap.size + 2) L h R.lines.length off k vv wr) (fun _ i _ => 12 - (intOf i).toNat)
    case atStart => exact ⟨0, by omega, Nat.zero_le _, rfl, f0⟩
    case round =>
      clear f0 v4 hoffc
      obtain ⟨k, hk, hkl, rfl, hf⟩ := hrel
      obtain ⟨S, V, va, vc, rfl, hF, hV, hlS, hlV⟩ := hf
      by_cases hgo : k < ys.length ∧ k < 12
      · obtain ⟨hlt, hk12⟩ := hgo
        have hd3 : decide (k < ys.length) = true := decide_eq_true hlt
        have hd4 : decide ((k : Int) < 12) = true := decide_eq_true (by omega)
        have hd4' : (k : Int) < 12 := by omega
        have hkI : (k : Int) < (ys.length : Int) := by omega
        have hk0 : (0 : Int) ≤ (k : Int) := by omega
        have hbq := hb1.trans (hF.b.mono (by omega))
        obtain ⟨bl, ol, cl, ea, fa⟩ := (hr2.out.kept hbq).cells (by omega)
        simp only [Value.slice.injEq, true_and] at ea
        obtain ⟨rfl, e1⟩ := ea
        have hat := get_of_lt evt0 hlt
        have hfy : (ys.getD k evt0).Fit := hy.out _ (mem_getD evt0 hlt)
        generalize ys.getD k evt0 = y at *
        have x0 : wr.cell? ⟨bl, ol + k * 6, none⟩ = _ := fa _ _ (evtCells_get ys k y hat 0 _ rfl)
        have x1 : wr.cell? ⟨bl, ol + k * 6 + 1, none⟩ = _ := fa _ _ (evtCells_get ys k y hat 1 _ rfl)
        have x2 : wr.cell? ⟨bl, ol + k * 6 + 2, none⟩ = _ := fa _ _ (evtCells_get ys k y hat 2 _ rfl)
        have x3 : wr.cell? ⟨bl, ol + k * 6 + 3, none⟩ = _ := fa _ _ (evtCells_get ys k y hat 3 _ rfl)
        have x4 : wr.cell? ⟨bl, ol + k * 6 + 4, none⟩ = _ := fa _ _ (evtCells_get ys k y hat 4 _ rfl)
        have x5 : wr.cell? ⟨bl, ol + k * 6 + 5, none⟩ = _ := fa _ _ (evtCells_get ys k y hat 5 _ rfl)
        have hdo := hF.do (by omega) y hfy
        have hV' := hV.do y
        have hlen' := doP_len S y
        rw [hlS] at hlen'
        generalize doP S y = S' at *
        replace hat := Lib.hid hat
        replace e1 := Lib.hid e1
        replace hdo := Lib.hid hdo
        replace hV' := Lib.hid hV'
        replace hlen' := Lib.hid hlen'
        replace hlS := Lib.hid hlS
        replace hlV := Lib.hid hlV
        clear fa hF hV hfy hbq
        as_aux_lemma =>
          go_wp2_with fail
          refine hdo.out.mono ?_
          rintro e w11 ⟨rfl, g1⟩
          have hsm := Lib.hid g1.same
          clear x0 x1 x2 x3 x4 x5 hdo g1
          go_wp2_with fail
          refine hsm.out.mono ?_
          rintro e w12 ⟨rfl, g2⟩
          have hok2 := g2.ok
          have hcw := cur_word hok2 (off := off) (by rw [hlen'.out]; omega)
          have hcl := hok2.curLen
          have hclt := hok2.cur_lt
          have hcc : Calls Try.prog 28 #[.pointer (some ⟨L.g, 0, none⟩)] w12 (BytesPost w12 (bytesL S'.curW)) := by
            obtain ⟨F, h1, _⟩ := g2.ex
            exact current_any h1
          have hlw : ∀ wz b, Has wz b (u8s (bytesL S'.curW)) 5 → Calls Try.prog 33 #[.slice (some ⟨b, 0, none⟩) (bytesL S'.curW).length (bytesL S'.curW).length, .int .u64 (off : Int)] wz fun e w' => e = .returned (.int .u64 ((valueP S' off : Nat) : Int)) ∧ wz = w' := fun wz b hh => by
            have := lword_any (Rd.of_has hh (bytesL S'.curW).length (bytesL S'.curW).length) (by have := hok2.n2; omega) hclt off f8.out (by rw [hcl, hlen'.out]; omega)
            rw [hcw] at this
            exact this
          replace hcc := Lib.hid hcc
          replace hlw := Lib.hid hlw
          clear hsm hok2 hcw hcl hclt
          go_wp2_with fail
          refine hcc.out.mono ?_
          rintro e w13 ⟨b, rfl, hh, bb, _⟩
          have g3 := g2.below bb
          have hlw2 := Lib.hid (hlw.out w13 b hh)
          clear hcc hlw hh bb g2
          generalize (bytesL S'.curW).length = cl' at *
          go_wp2_with fail
          refine hlw2.out.mono ?_
          rintro e w' ⟨rfl, rfl⟩
          have hown := g3.own
          have hby : (V.length + 1) * 8 ≤ 140737488355328 := by rw [hlV.out]; omega
          have hrel : ∀ sa cap w', w'.ownsRow 0 46 1 (.slice sa (V.length + 1) cap) (V.length + 1) (u64s V ++ [.int .u64 ((valueP S' off : Nat) : Int)]) → Only (fun k => Value.ownBlock (.slice va V.length vc) = some k) w13 w' → (∀ k, Value.ownBlock (.slice sa (V.length + 1) cap) = some k → Value.ownBlock (.slice va V.length vc) = some k ∨ w13.heap.size ≤ k) → FenL W1 (W.heap.size + 2) L h R.lines.length off (k + 1) (.slice sa (V.length + 1) cap) w' := fun sa cap w' own only fresh => by
            have := g3.app own only fresh
            rw [show 55 + 2 * k + 2 = 55 + 2 * (k + 1) by omega] at this
            exact ⟨S', V ++ [valueP S' off], sa, cap, by simp, this, hV'.out, hlen'.out, by simp [hlV.out]⟩
          generalize valueP S' off = v at *
          replace hrel := Lib.hid hrel
          clear hlw2 g3
          go_wp2_with (at_builtin; go_loud (refine wpList_app1 rfl (.tmp 97) (.tmp 102) 68 rfl 46 (.int .u64 0) 8 Try.underlying68 infoU64 rfl (by decide) va V.length vc (u64s V) rfl (.int .u64 (v : Int)) _ w13 rfl rfl hown _ rfl rfl (by simp [Value.oneCell']) hby ?_); intro sa cap w14 own14 only14 fresh14)
          have hr14 := hrel.out sa cap w14 own14 only14 fresh14
          exact ⟨⟨k + 1, by omega, by omega, by go_num, hr14⟩, by simp [intOf]; omega⟩
      · have hbq := hb1.trans (hF.b.mono (by omega))
        have hev2 := hev.out.only (Only.of_below hF.b) (by omega)
        have v5 := hev2.cell (o := 5) rfl
        have hgo2 : (decide (k < ys.length) = false) ∨ (decide (k < ys.length) = true ∧ decide ((k : Int) < 12) = false ∧ ¬ (k : Int) < 12) := by
          by_cases h1 : k < ys.length
          · exact .inr ⟨decide_eq_true h1, decide_eq_false (by omega), by omega⟩
          · exact .inl (decide_eq_false h1)
        obtain ⟨q, hq, hq8⟩ : ∃ q : Nat, IntKind.u8.wrap x.n = (q : Int) ∧ q < 256 := by
          refine ⟨(x.n % 256).toNat, ?_, by omega⟩
          rw [IntKind.wrap_u8]; omega
        have hok2 := hF.ok
        have himg := fun wz b (hB : Below wr.heap.size wr wz) (hc : wz.cell? ⟨b, 0, none⟩ = some (.int .u8 (q : Int))) => (hF.two.below hB).image (ca := some ⟨b, 0, none⟩) (cc := 1) (ch := [q]) ⟨⟨_, 1, rfl, .inr ⟨b, 0, rfl, fun j u hj => by
          match j, hj with
          | 0, hj => simp [u8s] at hj; subst hj; exact hc
          | j + 1, hj => simp [u8s] at hj⟩⟩, by simpa using hq8, by simp, by simp⟩
        have himV := hV.image hok2 [q] (by rw [hlS]; omega)
        have hVl : V.length ≤ 13 := by rw [hlV]; omega
        have hlw : ∀ wz b, Has wz b (u8s (bytesL (imageW S [q]))) 5 → Calls Try.prog 33 #[.slice (some ⟨b, 0, none⟩) (bytesL (imageW S [q])).length (bytesL (imageW S [q])).length, .int .u64 (off : Int)] wz fun e w' => e = .returned (.int .u64 (((imageW S [q]).getD (off / 8) 0 : Nat) : Int)) ∧ wz = w' := fun wz b hh =>
          lword_any (Rd.of_has hh _ _) (by unfold imageW; rw [crashW_len hok2]; have := hok2.n2; omega) (by unfold imageW; exact crashW_lt hok2 _) off f8.out (by unfold imageW; rw [crashW_len hok2, hlS]; omega)
        have hrd := fun wz (hB : Below wr.heap.size wr wz) => (Rd.of_own hF.own).kept hB
        generalize (imageW S [q]).getD (off / 8) 0 = got at *
        replace himg := Lib.hid himg
        replace himV := Lib.hid himV
        replace hlw := Lib.hid hlw
        replace hrd := Lib.hid hrd
        replace hlS := Lib.hid hlS
        replace hlV := Lib.hid hlV
        clear hF hV hev2 hok2 hgo
        rcases hgo2 with hd3 | ⟨hd3, hd4, hd4'⟩
        all_goals
          as_aux_lemma =>
            go_wp2_with fail
            refine (himg.out _ wr.heap.size ((Below.refl _ _).alloc (Nat.le_refl _) _) ((Has.new wr [.int .u8 (q : Int)] 5).cell (o := 0) rfl)).mono ?_
            rintro e w13 ⟨b, rfl, hh, bb, _⟩
            have hB13 : Below wr.heap.size wr w13 := ((Below.refl wr.heap.size wr).alloc (Nat.le_refl _) _).trans (bb.mono (by simp))
            have hlw2 := Lib.hid (hlw.out w13 b hh)
            have hrd2 := hrd.out w13 hB13
            have kF := hbq.trans (hB13.mono hbq.size)
            clear hlw hh bb himg hrd v5 hB13
            generalize (bytesL (imageW S [q])).length = cl' at *
            go_wp2_with fail
            refine hlw2.out.mono ?_
            rintro e w' ⟨rfl, rfl⟩
            clear hlw2
            go_wp2_with fail
            go_loop [114] (fun i => ∃ m : Nat, m ≤ V.length ∧ i = .int .i64 m ∧ ∀ j, j < m → V.getD j 0 ≠ got) (fun i => V.length - (intOf i).toNat)
            case atStart => exact ⟨0, Nat.zero_le _, rfl, fun j hj => by omega⟩
            case round =>
              obtain ⟨m, hm, rfl, hno⟩ := hrel
              by_cases hml : m < V.length
              · have hmI : (m : Int) < (V.length : Int) := by omega
                have hm0 : (0 : Int) ≤ (m : Int) := by omega
                have hmt2 : decide (m < V.length) = true := decide_eq_true hml
                obtain ⟨vb, vo, vcl, ev, fv⟩ := hrd2.cells (by omega)
                simp only [Value.slice.injEq, true_and] at ev
                obtain ⟨rfl, ev2⟩ := ev
                replace ev2 := Lib.hid ev2
                have hatv := get_of_lt 0 hml
                have cv : w13.cell? ⟨vb, vo + m, none⟩ = _ := fv _ _ (u64s_get V m _ hatv)
                have hnx : V.getD m 0 ≠ got → ∀ j, j < m + 1 → V.getD j 0 ≠ got := fun hne j hj => by
                  rcases Nat.lt_or_ge j m with h5 | h5
                  · exact hno j h5
                  · obtain rfl : j = m := by omega
                    exact hne
                replace hatv := Lib.hid hatv
                generalize V.getD m 0 = vm at *
                replace hno := Lib.hid hno
                clear fv
                by_cases hge : got = vm
                · have hq1 : (((got : Nat) : Int) == ((vm : Nat) : Int)) = true := by rw [beq_iff_eq]; omega
                  replace hge := Lib.hid hge
                  clear hnx
                  go_wp2_with fail
                  go_ret
                  exact ⟨rfl, kF⟩
                · have hq1 : (((got : Nat) : Int) == ((vm : Nat) : Int)) = false := by rw [beq_eq_false_iff_ne]; omega
                  have hq2 : ¬ ((got : Nat) : Int) = ((vm : Nat) : Int) := by omega
                  have hnx2 := Lib.hid (hnx (fun e => hge e.symm))
                  clear hnx hge
                  go_wp2_with fail
                  exact ⟨⟨m + 1, by omega, by go_num, hnx2.out⟩, by simp [intOf]; omega⟩
              · exfalso
                obtain ⟨j, hj, he⟩ := List.getElem_of_mem himV.out
                exact hno j (by omega) (by rw [getD_of 0 (List.getElem?_eq_getElem hj)]; exact he)
end Go.Proofs.Ytkmhanjddkplbaa
