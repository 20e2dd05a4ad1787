/- DeviceKeeps: the walk. -/
import Derived.Test.YtkmhanjddkplbaaG12
import Derived.Test.YtkmhanjddkplbaaP5
import Derived.Test.YtkmhanjddkplbaaH4
import Derived.Test.YtkmhanjddkplbaaG7
import Derived.Deep.RegionHeld3
import Derived.BigQuiet
namespace Go.Proofs.Ytkmhanjddkplbaa
open Go.RowKit Go.Maps Go.BigFrame
variable {w wx : World} {B M h T : Nat} {R : Dv} {L : Lay}

/-- Three slices of bytes of one length, in blocks from M on, and the block that lists them. -/
structure Junk3 (M n sb b1 b2 b3 : Nat) (wr : World) : Prop where
  s : Has wr sb [.slice (some ⟨b1, 0, none⟩) n n, .slice (some ⟨b2, 0, none⟩) n n, .slice (some ⟨b3, 0, none⟩) n n] 22
  q : ∀ q, q = b1 ∨ q = b2 ∨ q = b3 → M ≤ q ∧ q ≠ sb ∧ ∃ zs : List Int, Has wr q (zs.map (.int .u8)) 5 ∧ zs.length = n
theorem Junk3.below {n sb b1 b2 b3 : Nat} {wr w' : World} (hj : Junk3 M n sb b1 b2 b3 wr) (hb : Below wr.heap.size wr w') : Junk3 M n sb b1 b2 b3 w' :=
  ⟨hj.s.only (Only.of_below hb) (Nat.not_le.2 hj.s.lt), fun q hq => by obtain ⟨a, b, zs, c, d⟩ := hj.q q hq; exact ⟨a, b, zs, c.only (Only.of_below hb) (Nat.not_le.2 c.lt), d⟩⟩
theorem Junk3.set {n sb b1 b2 b3 p : Nat} {wr : World} (hj : Junk3 M n sb b1 b2 b3 wr) (hp : p = b1 ∨ p = b2 ∨ p = b3) (o : Nat) (z : Int) : Junk3 M n sb b1 b2 b3 (wr.setCell ⟨p, o, none⟩ (.int .u8 z)) := by
  obtain ⟨_, hne, _⟩ := hj.q p hp
  refine ⟨hj.s.set_ne (fun e => hne e.symm) _, fun q hq => ?_⟩
  obtain ⟨a, b, zs, c, d⟩ := hj.q q hq
  by_cases e : q = p
  · subst e
    refine ⟨a, b, zs.set o z, ?_, by simpa using d⟩
    have := c.set o (.int .u8 z)
    rwa [← List.map_set] at this
  · exact ⟨a, b, zs, c.set_ne e _, d⟩
variable {T1 T2 : Nat} {R1 R2 : Dv}
theorem Dp.refc {T : Nat} {R : Dv} {f : Nat} {args : Array Value} {v : Value} (hp : Dp w B L h T1 R1 T2 R2 wx) (hc : ∀ F, RefSt wx F 1 h T2 R2 → Calls Try.prog f args wx (RPost wx F 1 h T R v)) :
    Calls Try.prog f args wx fun e w' => e = .returned v ∧ Dp w B L h T1 R1 T R w' := by
  obtain ⟨F, h1, h2, h3⟩ := hp.ex
  have hBx := Nat.le_trans hp.hB hp.b.size
  exact (hc F h2).mono fun e w' ⟨F', he, d, hs⟩ => ⟨he, ⟨F', h1.other hs (by omega), d, h3.step hs hBx⟩, hp.b.trans (h3.below hs hBx), hp.hB⟩
theorem Dp.two (hp : Dp w B L h T R T R wx) : Two w B L h T R wx := ⟨hp.ex, hp.b, hp.hB⟩
theorem Two.dpp (hp : Two w B L h T R wx) : Dp w B L h T R T R wx := ⟨hp.ex, hp.b, hp.hB⟩
/-- Where the reference's device keeps a history's length. -/
theorem Dp.histCell (hp : Dp w B L h T1 R1 T2 R2 wx) {i : Nat} (hi : i < R2.lines.length) : ∃ lb lc va vc, wx.cell? ⟨h, 0, none⟩ = some (.slice (some ⟨lb, 0, none⟩) R2.lines.length lc) ∧ wx.cell? ⟨lb, i * 10 + 8, none⟩ = some (.slice va (R2.line i).hist.length vc) := by
  obtain ⟨F, _, hr, _⟩ := hp.ex
  obtain ⟨lb, lc, ns, h1, h2, h3, h4⟩ := hr.ex
  obtain ⟨va, vc, hlc, hrd⟩ := h2.cells hi
  exact ⟨lb, lc, va, vc, h1.cell (refCells_lines lb lc ns R2), hlc.c8⟩
theorem Two.hist (hp : Two w B L h T R wx) {i : Nat} (hi : i < R.lines.length) : Calls Try.prog 34 #[.pointer (some ⟨L.g, 0, none⟩), .int .i64 (i : Int)] wx fun e w' => ∃ a c, e = .returned (.slice a (R.line i).hist.length c) ∧ Two w B L h T R w' := by
  obtain ⟨F, h1, _⟩ := hp.ex
  exact (history_any h1 hi).mono fun e w' ⟨a, c, he, _, hb, _⟩ => ⟨a, c, he, hp.below hb⟩
theorem Two.lines (hp : Two w B L h T R wx) : Calls Try.prog 22 #[.pointer (some ⟨L.g, 0, none⟩)] wx fun e w' => e = .returned (.int .i64 (R.lines.length : Int)) ∧ wx = w' := by
  obtain ⟨F, h1, _⟩ := hp.ex; exact lines_any h1
theorem Two.off (hp : Two w B L h T R wx) : Calls Try.prog 27 #[.pointer (some ⟨L.g, 0, none⟩)] wx fun e w' => e = .returned (.bool R.off) ∧ wx = w' := by
  obtain ⟨F, h1, _⟩ := hp.ex; exact off_any h1
theorem Two.back (hp : Two w B L h T R wx) (l k : Int) : Calls Try.prog 43 #[.pointer (some ⟨L.g, 0, none⟩), .int .i64 l, .int .i64 k] wx fun e w' => e = .returned (.bool (backB R l k)) ∧ Dp w B L h T (backP R l k) T R w' :=
  hp.dpp.dev fun _ h1 => back_any h1 l k
theorem Dp.rback (hp : Dp w B L h T1 R1 T R wx) (l k : Int) : Calls Try.prog 44 #[.pointer (some ⟨h, 0, none⟩), .int .i64 l, .int .i64 k] wx fun e w' => e = .returned (.bool (backB R l k)) ∧ Dp w B L h T1 R1 T (backP R l k) w' :=
  hp.refc fun _ h1 => rback_any h1 l k
theorem Two.cur (hp : Two w B L h T R wx) : Calls Try.prog 28 #[.pointer (some ⟨L.g, 0, none⟩)] wx (SPost wx (strOf (bytesL R.curW))) := hp.dpp.cur
theorem Two.per (hp : Two w B L h T R wx) : Calls Try.prog 20 #[.pointer (some ⟨L.g, 0, none⟩)] wx (SPost wx (strOf (bytesL R.perW))) := hp.dpp.per
theorem Two.dirty (hp : Two w B L h T R wx) : Calls Try.prog 42 #[.pointer (some ⟨L.g, 0, none⟩)] wx fun e w' => ∃ a c, e = .returned (.slice a (dirtyL R).length c) ∧ Below wx.heap.size wx w' := by
  obtain ⟨F, h1, _⟩ := hp.ex
  exact (dirty_any h1).mono fun e w' ⟨a, c, he, _, hb, _⟩ => ⟨a, c, he, hb⟩
/-- A drawn region whose operations have one value each in every world of a class. -/
theorem wp_region_quietC {P : Program} {C : World → Prop} {id : Nat} {Q : Exit → Act → World → Prop} {a : Act} {w : World} {l : List Oper} (hm : P.follows .mixedOrders = true) (hB : Region.lexB .any l.toArray = true) (hC : C w.drew)
    (h : wpQuiet P l.toArray C (fun a' => ∀ w', C w' → Q .normal a' w') l a) : (Code.region id l.toArray true).wp P Q a w :=
  wp_region_quiet (C := C) hm hB hC (by simpa using h)
set_option maxHeartbeats 8000000 in
set_option maxRecDepth 100000 in
theorem keeps_walk (W : World) (lines : Int) (a : Option Addr) (c : Nat) (xs : List Evt) (hr : RunIn W lines a c xs) (ca : Option Addr) (clen cc : Nat) (zs : List Int) (hz : IsRow .u8 W ca clen cc zs) :
    Calls Try.prog 8 #[.agg #[.int .i64 lines, .slice a xs.length c], .slice ca clen cc] W fun e w' => e = .returned (.bool true) ∧ Below W.heap.size W w' := by
  obtain ⟨ch0, rfl, hch0⟩ := BytesIn.of_row hz
  have hb1 : Below W.heap.size W (W.alloc (.cells #[.int .i64 lines, .slice a xs.length c] 40)) := (Below.refl _ _).alloc (Nat.le_refl _) _
  have hpl := hr.play hb1 40 40 rfl (by omega)
  have hsh := short_any (hch0.kept hb1) 20 20 rfl
  have hch := hch0.take 20
  generalize ch0.take 20 = ch at *
  generalize playP (newP (nLines lines)) (xs.take 40) = R at *
  have c0 := (Has.new W [.int .i64 lines, .slice a xs.length c] 40).cell (o := 0) rfl
  have c1 := (Has.new W [.int .i64 lines, .slice a xs.length c] 40).cell (o := 1) rfl
  have hb1' := Lib.hid ((Below.refl W.heap.size W).alloc (Nat.le_refl _) (.cells #[.int .i64 lines, .slice a xs.length c] 40))
  replace hpl := Lib.hid hpl
  replace hb1 := Lib.hid hb1
  replace hsh := Lib.hid hsh
  replace hch := Lib.hid hch
  clear hr hz hch0
  go_enter Try.func8, Try.ntmps8
  go_wp2_with fail
  refine hsh.out.mono ?_
  rintro e w' ⟨rfl, rfl⟩
  go_wp2_with fail
  refine hpl.out.mono ?_
  rintro e w1 ⟨L, h, rfl, t1⟩
  have b1 := hb1.out.trans (t1.b.mono hb1.out.size)
  clear hpl hb1 c0 c1 hsh
  go_wp2_with fail
  refine (awake_any _).mono ?_
  rintro e w2 ⟨rfl, b2⟩
  have t2 := t1.below b2
  have b3 := b1.trans (b2.mono b1.size)
  clear b1 b2 t1
  have hok := t2.ok
  have hcl : (bytesL R.curW).length = R.lines.length * 64 := by rw [bytesL_len, hok.curLen]; omega
  have hpl2 : (bytesL R.perW).length = R.lines.length * 64 := by rw [bytesL_len, hok.perLen]; omega
  have hil : (bytesL (imageW R ch)).length = R.lines.length * 64 := by rw [bytesL_len]; unfold imageW; rw [crashW_len hok]; omega
  have hkp := t2.keep
  have hcur : ∀ wx, Below w2.heap.size w2 wx → Calls Try.prog 28 #[.pointer (some ⟨L.g, 0, none⟩)] wx (BytesPost wx (bytesL R.curW)) := fun wx hB => by
    obtain ⟨F, h1, _⟩ := (t2.below hB).ex
    exact current_any h1
  have hper : ∀ wx, Below w2.heap.size w2 wx → Calls Try.prog 20 #[.pointer (some ⟨L.g, 0, none⟩)] wx (BytesPost wx (bytesL R.perW)) := fun wx hB => by
    obtain ⟨F, h1, _⟩ := (t2.below hB).ex
    exact persisted_any h1
  have him : ∀ wx, Below w2.heap.size w2 wx → Calls Try.prog 31 #[.pointer (some ⟨L.g, 0, none⟩), .slice ca ch.length cc] wx (BytesPost wx (bytesL (imageW R ch))) := fun wx hB => (t2.below hB).image ((hch.out.kept b3).kept hB)
  replace hcl := Lib.hid hcl
  replace hpl2 := Lib.hid hpl2
  replace hil := Lib.hid hil
  replace hcur := Lib.hid hcur
  replace hper := Lib.hid hper
  replace him := Lib.hid him
  replace hkp := Lib.hid hkp
  have k0 : Below w2.heap.size w2 w2 := Below.refl _ _
  go_wp2_with fail
  refine (hcur.out _ k0).mono ?_
  rintro e w3 ⟨q1, rfl, g1, d1, l1⟩
  have k1 := k0.trans (d1.mono k0.size)
  rw [hcl.out]
  go_wp2_with fail
  refine (hper.out _ k1).mono ?_
  rintro e w4 ⟨q2, rfl, g2, d2, l2⟩
  have k2 := k1.trans (d2.mono k1.size)
  rw [hpl2.out]
  go_wp2_with fail
  refine (him.out _ k2).mono ?_
  rintro e w5 ⟨q3, rfl, g3, d3, l3⟩
  have k3 := k2.trans (d3.mono k2.size)
  rw [hil.out]
  have hu8 : ∀ l : List Nat, u8s l = (l.map fun x => ((x : Nat) : Int)).map (.int .u8) := fun l => by unfold u8s; rw [List.map_map]; rfl
  have hj0 : Junk3 w2.heap.size (R.lines.length * 64) w5.heap.size q1 q2 q3 (w5.alloc (.cells #[.slice (some ⟨q1, 0, none⟩) (R.lines.length * 64) (R.lines.length * 64), .slice (some ⟨q2, 0, none⟩) (R.lines.length * 64) (R.lines.length * 64), .slice (some ⟨q3, 0, none⟩) (R.lines.length * 64) (R.lines.length * 64)] 22)) := by
    have e1 := d1.size
    have e2 := d2.size
    have e3 := d3.size
    have f1 : Has w5 q1 (u8s (bytesL R.curW)) 5 := (g1.only (Only.of_below d2) (Nat.not_le.2 g1.lt)).only (Only.of_below d3) (Nat.not_le.2 (Nat.lt_of_lt_of_le g1.lt e2))
    have f2 : Has w5 q2 (u8s (bytesL R.perW)) 5 := g2.only (Only.of_below d3) (Nat.not_le.2 g2.lt)
    refine ⟨Has.new _ _ _, fun q hq => ?_⟩
    rcases hq with rfl | rfl | rfl
    · exact ⟨l1, by have := f1.lt; omega, _, by rw [← hu8]; exact f1.alloc _, by rw [List.length_map, hcl.out]⟩
    · exact ⟨by omega, by have := f2.lt; omega, _, by rw [← hu8]; exact f2.alloc _, by rw [List.length_map, hpl2.out]⟩
    · exact ⟨by omega, by have := g3.lt; omega, _, by rw [← hu8]; exact g3.alloc _, by rw [List.length_map, hil.out]⟩
  have hk5 := (hkp.out.below k3).below ((Below.refl w5.heap.size w5).alloc (Nat.le_refl _) (.cells #[.slice (some ⟨q1, 0, none⟩) (R.lines.length * 64) (R.lines.length * 64), .slice (some ⟨q2, 0, none⟩) (R.lines.length * 64) (R.lines.length * 64), .slice (some ⟨q3, 0, none⟩) (R.lines.length * 64) (R.lines.length * 64)] 22))
  clear hu8 g1 g2 g3 d1 d2 d3
  have hn2 := hok.n2
  generalize hnn : R.lines.length * 64 = nb at *
  have hnb : nb ≤ 262144 := by omega
  replace hnn := Lib.hid hnn
  go_wp2_with fail
  go_loopw [38] (fun v wr => ∃ i : Nat, i ≤ 3 ∧ v = .int .i64 i ∧ KeepS (W.alloc (.cells #[.int .i64 lines, .slice a xs.length c] 40)) (W.alloc (.cells #[.int .i64 lines, .slice a xs.length c] 40)).heap.size w2.heap.size L h (2 * 40) R wr ∧ Junk3 w2.heap.size nb w5.heap.size q1 q2 q3 wr) (fun v _ => 3 - (intOf v).toNat)
  case atStart => exact ⟨0, by omega, rfl, hk5, hj0⟩
  case round =>
    clear hk5 hj0
    obtain ⟨i, hi, rfl, hk, hj⟩ := hrel
    by_cases hi3 : i < 3
    · obtain ⟨q, hq, hcq⟩ : ∃ q, (q = q1 ∨ q = q2 ∨ q = q3) ∧ wr.cell? ⟨w5.heap.size, i, none⟩ = some (.slice (some ⟨q, 0, none⟩) nb nb) := by
        match i, hi3 with
        | 0, _ => exact ⟨q1, .inl rfl, hj.s.cell rfl⟩
        | 1, _ => exact ⟨q2, .inr (.inl rfl), hj.s.cell rfl⟩
        | 2, _ => exact ⟨q3, .inr (.inr rfl), hj.s.cell rfl⟩
      have em : decide ((i : Int) < 3) = true := decide_eq_true (by omega)
      have hiI : (i : Int) < 3 := by omega
      have hi0 : (0 : Int) ≤ (i : Int) := by omega
      have hwm := Lib.hid (show wrap64 ((i : Int) + 1) = (i : Int) + 1 by unfold wrap64; omega)
      replace hi3 := Lib.hid hi3
      replace hi := Lib.hid hi
      go_wp2_with fail
      clear hcq
      go_loopw [44] (fun v wr => ∃ j : Nat, j ≤ nb ∧ v = .int .i64 j ∧ KeepS (W.alloc (.cells #[.int .i64 lines, .slice a xs.length c] 40)) (W.alloc (.cells #[.int .i64 lines, .slice a xs.length c] 40)).heap.size w2.heap.size L h (2 * 40) R wr ∧ Junk3 w2.heap.size nb w5.heap.size q1 q2 q3 wr) (fun v _ => nb - (intOf v).toNat)
      case atStart => exact ⟨0, Nat.zero_le _, rfl, hk, hj⟩
      case round =>
        clear hk hj
        obtain ⟨j, hjl, rfl, hk, hj⟩ := hrel
        by_cases hjn : j < nb
        · obtain ⟨hqM, hqs, zs, hz, hzl⟩ := hj.q q hq
          have hjI : (j : Int) < (nb : Int) := by omega
          have hj0 : (0 : Int) ≤ (j : Int) := by omega
          have cj := hz.cell (o := j) (ints_get zs .u8 j (by omega))
          have fj := hz.free j
          have hk2 := fun v => hk.set (a := ⟨q, j, none⟩) hqM v
          have hj2 := fun z => hj.set hq j z
          generalize zs.getD j 0 = z at *
          replace hk2 := Lib.hid hk2
          replace hj2 := Lib.hid hj2
          clear hk hj hz
          go_wp2_with fail
          exact ⟨⟨j + 1, by omega, by go_num, hk2.out _, hj2.out _⟩, by simp [intOf]; omega⟩
        · obtain rfl : j = nb := by omega
          go_wp2_with fail
          try rw [hwm.out]
          have := hi3.out
          exact ⟨⟨i + 1, by omega, by go_num, hk, hj⟩, by simp [intOf]; omega⟩
    · obtain rfl : i = 3 := by omega
      have hi3' : decide ((3 : Int) < 3) = false := rfl
      have hcK := hch.out.kept hb1'.out
      generalize W.alloc (.cells #[.int .i64 lines, .slice a xs.length c] 40) = W1 at *
      generalize w2.heap.size = M at *
      clear hj hi hi3
      have hok3 := hk.two.ok
      have cLi : ∀ wx, KeepS W1 W1.heap.size M L h (2 * 40) R wx → _ := fun wx hp => hp.lines
      have cHi : ∀ wx, KeepS W1 W1.heap.size M L h (2 * 40) R wx → ∀ i, i < R.lines.length → _ := fun wx hp i hi => hp.hist hi
      have cDi : ∀ wx, KeepS W1 W1.heap.size M L h (2 * 40) R wx → _ := fun wx hp => hp.dirty
      have hhl := fun i (hi : i < R.lines.length) => show (R.line i).hist.length ≤ 100000 by have := (hok3.ln i hi).hl; have := hok3.t; omega
      have hdl : (dirtyL R).length ≤ R.lines.length := dirtyTo_len R R.lines.length
      replace cLi := Lib.hid cLi
      replace cHi := Lib.hid cHi
      replace cDi := Lib.hid cDi
      replace hhl := Lib.hid hhl
      replace hcK := Lib.hid hcK
      replace hok3 := Lib.hid hok3
      replace hdl := Lib.hid hdl
      replace hn2 := Lib.hid hn2
      have c1 := Lib.hid (cLi.out wr hk)
      go_wp2_with fail
      refine c1.out.mono ?_
      rintro e w' ⟨rfl, rfl⟩
      clear c1
      go_wp2_with fail
      go_loopw [57] (fun v wr => ∃ i : Nat, i ≤ R.lines.length ∧ v = .int .i64 i ∧ KeepS W1 W1.heap.size M L h (2 * 40) R wr) (fun v _ => R.lines.length - (intOf v).toNat)
      case atStart => exact ⟨0, Nat.zero_le _, rfl, hk⟩
      case round =>
        clear hk
        obtain ⟨i, hi, rfl, hk⟩ := hrel
        by_cases hlt : i < R.lines.length
        · have hiI : (i : Int) < (R.lines.length : Int) := by omega
          have hlen := hn2.out
          have hwm := Lib.hid (show wrap64 ((i : Int) + 1) = (i : Int) + 1 by unfold wrap64; omega)
          have ch := Lib.hid (cHi.out wr hk i hlt)
          have hln := hhl.out i hlt
          generalize (R.line i).hist.length = m at *
          clear hk hlen
          go_wp2_with fail
          refine ch.out.mono ?_
          rintro e w6 ⟨ha, hc, rfl, hjw, hk⟩
          clear ch
          go_wp2_with fail
          go_loopw [65] (fun v wr => ∃ k : Nat, k ≤ m ∧ v = .int .i64 k ∧ KeepS W1 W1.heap.size M L h (2 * 40) R wr ∧ JunkW M (.slice ha m hc) m wr) (fun v _ => m - (intOf v).toNat)
          case atStart => exact ⟨0, Nat.zero_le _, rfl, hk, hjw⟩
          case round =>
            clear hk hjw
            obtain ⟨k, hkl, rfl, hk, hjw⟩ := hrel
            by_cases hkm : k < m
            · have hkI : (k : Int) < (m : Int) := by omega
              have hk00 : (0 : Int) ≤ (k : Int) := by omega
              have hjw2 := hjw
              rcases hjw with h0 | ⟨g, cap, cs, hv, hg, hh, hcl⟩
              · omega
              · simp only [Value.slice.injEq, true_and] at hv
                obtain ⟨rfl, rfl⟩ := hv
                obtain ⟨u0, cu0⟩ : ∃ u, wr.cell? ⟨g, k * 2, none⟩ = some u := ⟨_, hh.cell (get_of_lt (.int .u64 0) (by omega))⟩
                obtain ⟨u1, cu1⟩ : ∃ u, wr.cell? ⟨g, k * 2 + 1, none⟩ = some u := ⟨_, hh.cell (get_of_lt (.int .u64 0) (by omega))⟩
                have f0 := hh.free (k * 2)
                have f1 := hh.free (k * 2 + 1)
                have hk2 := fun u0 u1 => (hk.set (a := ⟨g, k * 2, none⟩) hg u0).set (a := ⟨g, k * 2 + 1, none⟩) hg u1
                have hj2 := fun u0 u1 => (hjw2.set (o := k * 2) rfl u0).set (o := k * 2 + 1) rfl u1
                replace hk2 := Lib.hid hk2
                replace hj2 := Lib.hid hj2
                clear hk hjw2 hh
                go_wp2_with fail
                exact ⟨⟨k + 1, by omega, by go_num, hk2.out _ _, hj2.out _ _⟩, by simp [intOf]; omega⟩
            · obtain rfl : k = m := by omega
              go_wp2_with fail
              rw [hwm.out]
              exact ⟨⟨i + 1, by omega, by go_num, hk⟩, by simp [intOf]; omega⟩
        · obtain rfl : i = R.lines.length := by omega
          have cd := Lib.hid (cDi.out wr hk)
          clear hk
          go_wp2_with fail
          refine cd.out.mono ?_
          rintro e w6 ⟨da, dc, rfl, hjw, hk⟩
          clear cd
          have hdl2 := hdl.out
          have hn22 := hn2.out
          generalize (dirtyL R).length = m at *
          go_wp2_with fail
          go_loopw [13] (fun v wr => ∃ k : Nat, k ≤ m ∧ v = .int .i64 k ∧ KeepS W1 W1.heap.size M L h (2 * 40) R wr ∧ JunkI M (.slice da m dc) m wr) (fun v _ => m - (intOf v).toNat)
          case atStart => exact ⟨0, Nat.zero_le _, rfl, hk, hjw⟩
          case round =>
            clear hk hjw
            obtain ⟨k, hkl, rfl, hk, hjw⟩ := hrel
            by_cases hkm : k < m
            · have hkI : (k : Int) < (m : Int) := by omega
              have hk00 : (0 : Int) ≤ (k : Int) := by omega
              have hjw2 := hjw
              rcases hjw with h0 | ⟨g, cap, cs, hv, hg, hh, hcl⟩
              · omega
              · simp only [Value.slice.injEq, true_and] at hv
                obtain ⟨rfl, rfl⟩ := hv
                obtain ⟨z, hz⟩ := hcl k hkm
                have cj := hh.cell hz
                have fj := hh.free k
                have hk2 := fun v => hk.set (a := ⟨g, k, none⟩) hg v
                have hj2 := fun z => hjw2.set (o := k) rfl z
                replace hk2 := Lib.hid hk2
                replace hj2 := Lib.hid hj2
                clear hk hjw2 hh hz hcl
                go_wp2_with fail
                exact ⟨⟨k + 1, by omega, by go_num, hk2.out _, hj2.out _⟩, by simp [intOf]; omega⟩
            · obtain rfl : k = m := by omega
              have t0 := hk.two
              clear hk hjw cHi cDi cLi
              have hoff0 := backAll_off R R.lines.length
              have hokB := backAll_ok hok3.out R.lines.length
              have hclean : R.off = false → ∀ j, j < (backAll R R.lines.length).lines.length → ((backAll R R.lines.length).line j).hist = [] := fun ho j hj => backAll_hist ho j (by rw [backAll_len] at hj; exact hj)
              have cS : ∀ R' wx, Two W1 W1.heap.size L h (2 * 40) R' wx → _ := fun R' wx hp => hp.same
              replace cS := Lib.hid cS
              have cL := fun wx (hp : Two W1 W1.heap.size L h (2 * 40) R wx) => hp.lines
              replace cL := Lib.hid cL
              have hln2 := hn2.out
              clear hhl hdl hn2
              go_wp2_with fail
              refine (cS.out R wr t0).mono ?_
              rintro e w7 ⟨rfl, t1⟩
              clear t0
              go_wp2_with fail
              refine (cL.out w7 t1).mono ?_
              rintro e w' ⟨rfl, rfl⟩
              have t2 : Two W1 W1.heap.size L h (2 * 40) (backAll R 0) w7 := t1
              clear t1 cL
              go_wp2_with fail
              go_loopw [94] (fun v wr => ∃ i : Nat, i ≤ R.lines.length ∧ v = .int .i64 i ∧ Two W1 W1.heap.size L h (2 * 40) (backAll R i) wr) (fun v _ => R.lines.length - (intOf v).toNat)
              case atStart => exact ⟨0, Nat.zero_le _, rfl, t2⟩
              case round =>
                clear t2
                obtain ⟨i, hi, rfl, t3⟩ := hrel
                by_cases hlt : i < R.lines.length
                · have hiI : (i : Int) < (R.lines.length : Int) := by omega
                  have hi0 : (0 : Int) ≤ (i : Int) := by omega
                  have hsu := backAll_succ R i
                  have hle := backAll_len R i
                  have hokI := backAll_ok hok3.out i
                  have hml : ((backAll R i).line i).hist.length ≤ 100000 := by have := (hokI.ln i (by omega)).hl; have := hokI.t; omega
                  generalize hR2 : backAll R (i + 1) = R2 at *
                  replace hR2 := Lib.hid hR2
                  generalize backAll R i = R1 at *
                  have cH := Lib.hid (t3.hist (i := i) (by omega))
                  have cB := fun wx (hp : Two W1 W1.heap.size L h (2 * 40) R1 wx) => hp.back (i : Int) (((R1.line i).hist.length : Nat) : Int)
                  have cR := fun wx (hp : Dp W1 W1.heap.size L h (2 * 40) R2 (2 * 40) R1 wx) => hp.rback (i : Int) (((R1.line i).hist.length : Nat) : Int)
                  have cC := fun wx (hp : Dp W1 W1.heap.size L h (2 * 40) R2 (2 * 40) R1 wx) => hp.histCell (i := i) (by omega)
                  rw [← hsu] at cB cR
                  rw [hle] at cC
                  generalize (R1.line i).hist.length = m at *
                  generalize backB R1 (i : Int) (m : Int) = bb at *
                  replace cB := Lib.hid cB
                  replace cR := Lib.hid cR
                  replace cC := Lib.hid cC
                  replace hsu := Lib.hid hsu
                  replace hle := Lib.hid hle
                  clear t3 hokI
                  go_wp2_with fail
                  refine cH.out.mono ?_
                  rintro e w8 ⟨ha, hc, rfl, t4⟩
                  clear cH
                  go_wp2_with fail
                  refine (cB.out _ t4).mono ?_
                  rintro e w9 ⟨rfl, p5⟩
                  clear cB t4
                  obtain ⟨lb, lc, va, vc, x0, x1⟩ := cC.out _ p5
                  have cR9 := Lib.hid (cR.out _ p5)
                  clear cC cR p5
                  go_wp2_with fail
                  refine cR9.out.mono ?_
                  rintro e w10 ⟨rfl, p6⟩
                  have t5 := p6.two
                  clear cR9 p6 x0 x1
                  go_wp2_with fail
                  exact ⟨⟨i + 1, by omega, by go_num, by rw [hR2.out]; exact t5⟩, by simp [intOf]; omega⟩
                · obtain rfl : i = R.lines.length := by omega
                  rw [← hoff0] at hclean
                  generalize backAll R R.lines.length = R' at *
                  have cSame := cS.out R'
                  have cO := fun wx (hp : Two W1 W1.heap.size L h (2 * 40) R' wx) => hp.off
                  have kend : ∀ wx, Two W1 W1.heap.size L h (2 * 40) R' wx → Below W.heap.size W wx := fun wx hp => hb1'.out.trans (hp.b.mono (hb1'.out.size))
                  replace cSame := Lib.hid cSame
                  replace kend := Lib.hid kend
                  replace hokB := Lib.hid hokB
                  clear hoff0 cS hch hok hcl hpl2 hil hnn hcur hper him hkp hok3 k0 k1 k2 k3 l1 l2 l3 b3 hnb t2 hi3' hln2 hdl2 hn22
                  cases hof : R'.off with
                  | true =>
                    rw [hof] at cO
                    replace cO := Lib.hid cO
                    replace hof := Lib.hid hof
                    go_wp2_with fail
                    refine wp_region_quietC (C := fun w' => Two W1 W1.heap.size L h (2 * 40) R' w') (by kernel_rfl) (by kernel_rfl) (t3.drewN 1) ?_
                    repeat (first | go_big_quiet_skip | (go_big_quiet_want; go_big_quiet_op; first | go_big_quiet_on | (refine ⟨_, fun _ _ => rfl, ?_⟩; go_big_quiet_on)))
                    go_big_quiet_want
                    go_big_quiet_op
                    refine ⟨.bool true, fun w hw => cSame.out w hw, ?_⟩
                    go_big_quiet_on
                    repeat (first | go_big_quiet_skip | (go_big_quiet_want; go_big_quiet_op; first | go_big_quiet_on | (refine ⟨_, fun _ _ => rfl, ?_⟩; go_big_quiet_on)))
                    go_big_quiet_want
                    go_big_quiet_op
                    refine ⟨.bool true, fun w hw => (cO.out w hw).mono (fun e w'' hx => ⟨hx.1, hx.2 ▸ hw⟩), ?_⟩
                    go_big_quiet_on
                    repeat (first | go_big_quiet_skip | (go_big_quiet_want; go_big_quiet_op; first | go_big_quiet_on | (refine ⟨_, fun _ _ => rfl, ?_⟩; go_big_quiet_on)))
                    refine wpQuiet_nil ?_
                    intro w' hw'
                    have kE := Lib.hid (kend.out _ hw')
                    go_wp2_with fail
                    go_ret
                    exact ⟨rfl, kE.out⟩
                  | false =>
                    rw [hof] at cO
                    have hcl := hclean hof
                    have e1 := clean_dirty hcl
                    have e2 := clean_image hcl
                    have e3 := clean_cur hcl
                    have cD := fun wx (hp : Two W1 W1.heap.size L h (2 * 40) R' wx) => hp.dirty
                    have cP := fun wx (hp : Two W1 W1.heap.size L h (2 * 40) R' wx) => hp.per
                    have cC := fun wx (hp : Two W1 W1.heap.size L h (2 * 40) R' wx) => hp.cur
                    have cI : ∀ wx, Two W1 W1.heap.size L h (2 * 40) R' wx → Calls Try.prog 31 #[.pointer (some ⟨L.g, 0, none⟩), .slice ca ch.length cc] wx (SPost wx (strOf (bytesL (imageW R' ch)))) := fun wx hp => (hp.image (hcK.out.kept hp.b)).mono fun _ _ x => x.s
                    rw [e1] at cD
                    rw [show imageW R' ch = R'.perW from e2 _] at cI
                    rw [e3] at cC
                    generalize strOf (bytesL R'.perW) = sp at *
                    replace cO := Lib.hid cO
                    replace cD := Lib.hid cD
                    replace cP := Lib.hid cP
                    replace cC := Lib.hid cC
                    replace cI := Lib.hid cI
                    replace hof := Lib.hid hof
                    clear e1 e2 e3 hcl hclean
                    go_wp2_with fail
                    first | go_region_with ((first
                      | (go_at_call 15; (with_reducible refine (cSame.out _ ?_).mono ?_); (first | exact t3 | exact t3.drewN 1); rintro e wa ⟨rfl, ta⟩)
                      | (go_at_call 27; (with_reducible refine (cO.out _ ?_).mono ?_); (first | exact ta | exact ta.drewN 1); rintro e w' ⟨rfl, rfl⟩)
                      | (go_at_call 42; (with_reducible refine (cD.out _ ?_).mono ?_); (first | exact ta | exact ta.drewN 1); rintro e wb ⟨da2, dc2, rfl, bB⟩; have tb := (by first | exact ta.below bB | exact (ta.drewN 1).below bB : Two W1 W1.heap.size L h (2 * 40) R' wb))
                      | (go_at_call 31; (with_reducible refine (cI.out _ ?_).mono ?_); (first | exact tb | exact tb.drewN 1); rintro e wc ⟨vc1, rfl, sC, bC⟩; have tc := (by first | exact tb.below bC | exact (tb.drewN 1).below bC : Two W1 W1.heap.size L h (2 * 40) R' wc); have cC1 := sC _ (Below.refl _ _); have cC1d := sC _ (Fr.drew (Below.refl _ _)))
                      | (go_at_call 28; (with_reducible refine (cC.out _ ?_).mono ?_); (first | exact te | exact te.drewN 1); rintro e wf ⟨vf, rfl, sF, bF⟩; have tf := (by first | exact te.below bF | exact (te.drewN 1).below bF : Two W1 W1.heap.size L h (2 * 40) R' wf); have sE2 := (by first | exact sE.up bF | exact (sE.up (Fr.drew (Below.refl _ _))).up bF); have cF := sF _ (Below.refl _ _); have cFd := sF _ (Fr.drew (Below.refl _ _)); have cE2 := sE2 _ (Below.refl _ _); have cE2d := sE2 _ (Fr.drew (Below.refl _ _)))
                      | (go_at_call 28; (with_reducible refine (cC.out _ ?_).mono ?_); (first | exact tc | exact tc.drewN 1); rintro e wd ⟨vd, rfl, sD, bD⟩; have td := (by first | exact tc.below bD | exact (tc.drewN 1).below bD : Two W1 W1.heap.size L h (2 * 40) R' wd); have sC2 := (by first | exact sC.up bD | exact (sC.up (Fr.drew (Below.refl _ _))).up bD); have cD := sD _ (Below.refl _ _); have cDd := sD _ (Fr.drew (Below.refl _ _)); have cC2 := sC2 _ (Below.refl _ _); have cC2d := sC2 _ (Fr.drew (Below.refl _ _)))
                      | (go_at_call 20; (with_reducible refine (cP.out _ ?_).mono ?_); (first | exact td | exact td.drewN 1); rintro e we ⟨ve, rfl, sE, bE⟩; have te := (by first | exact td.below bE | exact (td.drewN 1).below bE : Two W1 W1.heap.size L h (2 * 40) R' we); have cE := sE _ (Below.refl _ _); have cEd := sE _ (Fr.drew (Below.refl _ _))))) | fail
                    all_goals
                      have kE := Lib.hid (kend.out _ (by first | exact tf | exact tf.drewN 1))
                      clear ta tb tc td te tf
                      go_wp2_with fail
                      go_ret
                      exact ⟨rfl, kE.out⟩
end Go.Proofs.Ytkmhanjddkplbaa
