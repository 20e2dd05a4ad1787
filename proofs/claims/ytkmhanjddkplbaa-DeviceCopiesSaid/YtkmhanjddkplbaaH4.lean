/- Crash; DeviceImages: the walk. -/
import Derived.Test.YtkmhanjddkplbaaH2
import Derived.Test.YtkmhanjddkplbaaH3
import Derived.Test.YtkmhanjddkplbaaG5
namespace Go.Proofs.Ytkmhanjddkplbaa
open Go.RowKit Go.Maps
variable {w : World} {F F' : Own} {o o' h T : Nat} {R : Dv} {L : Lay}

/-- The same object, under other roles for the other blocks. -/
theorem LinSt.retag {lb : Nat} (hl : LinSt w F o lb R) (hx : ∀ k r, F k = some (o, r) → F' k = some (o, r)) : LinSt w F' o lb R := by
  obtain ⟨cs, hv, h1, h2, h3⟩ := hl
  exact ⟨cs, hv, h1, h2, fun i hi => by obtain ⟨a, b, c, d⟩ := h3 i hi; exact ⟨a, b, c, fun k hk => hx _ _ (d k hk)⟩⟩
theorem DevSt.retag (hd : DevSt w F o L T R) (hx : ∀ k r, F k = some (o, r) → F' k = some (o, r)) : DevSt w F' o L T R :=
  ⟨hd.ok, hd.dev, hx _ _ hd.fg, hd.per, hx _ _ hd.fp, hd.cur, hx _ _ hd.fc, hd.lin.retag hx, hx _ _ hd.fl, fun t ht => ⟨(hd.thr t ht).1, hx _ _ (hd.thr t ht).2⟩, fun t ht => ⟨(hd.nov t ht).1, hx _ _ (hd.nov t ht).2⟩⟩
theorem RdO.retag {r : Nat × Nat} {v : Value} {n : Nat} {cells : List Value} (hd : RdO w F (o, r) v n cells) (hx : ∀ k r, F k = some (o, r) → F' k = some (o, r)) : RdO w F' (o, r) v n cells :=
  ⟨hd.1, fun hc k hk => hx _ _ (hd.2.1 hc k hk), hd.2.2⟩
theorem RefSt.retag (hr : RefSt w F o h T R) (hx : ∀ k r, F k = some (o, r) → F' k = some (o, r)) : RefSt w F' o h T R := by
  obtain ⟨lb, lc, ns, h1, h2, h3, h4⟩ := hr.ex
  obtain ⟨cs, hv, h5, h6⟩ := h2
  refine ⟨hr.ok, ⟨lb, lc, ns, h1, ⟨cs, hv, h5, fun i hi => ?_⟩, hx _ _ h3, fun t ht => (h4 t ht).retag hx⟩, hx _ _ hr.fh⟩
  obtain ⟨a, b, c, d⟩ := h6 i hi
  exact ⟨a, b, c, d.retag hx⟩
/-- The roles without those of object o. -/
def Own.drop (F : Own) (o : Nat) : Own := fun k => match F k with
  | some (o1, r) => if o1 = o then none else some (o1, r)
  | none => none
theorem Own.drop_ne (F : Own) (o : Nat) (k : Nat) (r : Nat × Nat) : F.drop o k ≠ some (o, r) := by
  unfold Own.drop
  split
  · rename_i o1 r1 _
    split
    · intro e; cases e
    · intro e; cases e; contradiction
  · intro e; cases e
theorem Own.drop_keep (F : Own) {o o1 : Nat} (hn : o1 ≠ o) (k : Nat) (r : Nat × Nat) (h : F k = some (o1, r)) : F.drop o k = some (o1, r) := by
  unfold Own.drop; rw [h]; simp only [if_neg hn]
theorem Free.drop {B : Nat} (hF : Free F B) (o : Nat) : Free (F.drop o) B := fun k hk => by unfold Own.drop; rw [hF k hk]

theorem RefSt.belowX {w' : World} (hr : RefSt w F o h T R) (hb : Below w.heap.size w w') (hx : Ext w F F') : RefSt w' F' o h T R :=
  have hO : Only (fun _ => False) w w' := ⟨hb.os, hb.tape, hb.output, hb.size, fun k hk _ => hb.block k hk⟩
  hr.kept hO hx (fun _ _ s => s.elim)
theorem BytesPost.into {w' : World} {b : Nat} {bs : List Nat} (hh : Has w' b (u8s bs) 5) (hb : ∀ x ∈ bs, x < 256) (hm : bs.length ≤ 9223372036854775807) : BytesIn w' (some ⟨b, 0, none⟩) bs.length bs :=
  ⟨Rd.of_has hh _ _, hb, hm, Nat.le_refl _⟩
def CrashPost (w : World) (F : Own) (o : Nat) (R : Dv) (e : Ending) (w' : World) : Prop :=
  ∃ L F', e = .returned (.pointer (some ⟨L.g, 0, none⟩)) ∧ DevSt w' F' o L 0 R ∧ Ext w F F' ∧ Below w.heap.size w w'
def crashP (R : Dv) (ch : List Nat) : Dv := fromP R.lines.length (imageW R ch)
set_option maxHeartbeats 2000000 in
theorem crash_any (hd : DevSt w F o L T R) (F2 : Own) (o2 : Nat) {ca : Option Addr} {cc : Nat} {ch : List Nat} (hch : BytesIn w ca cc ch) :
    Calls Try.prog 46 #[.pointer (some ⟨L.g, 0, none⟩), .slice ca ch.length cc] w (CrashPost w F2 o2 (crashP R ch)) := by
  generalize hpost : CrashPost w F2 o2 (crashP R ch) = post
  have n1 := hd.ok.n1
  have n2 := hd.ok.n2
  have hil := crashW_len hd.ok (chK R ch)
  have hlt := crashW_lt hd.ok (chK R ch)
  have hbl := bytesL_len (imageW R ch)
  unfold imageW at hbl
  have him := image_any hd ca cc ch hch.r hch.m hch.lt
  have hfrom : ∀ w1 b, Has w1 b (u8s (bytesL (imageW R ch))) 5 → Below w.heap.size w w1 → Calls Try.prog 18 #[.slice (some ⟨b, 0, none⟩) (bytesL (imageW R ch)).length (bytesL (imageW R ch)).length] w1 (fun e w' => ∃ g, e = .returned (.tuple #[.pointer (some ⟨g, 0, none⟩), .int .i64 0]) ∧ post (.returned (.pointer (some ⟨g, 0, none⟩))) w') := by
    intro w1 b hh hB
    refine (from_any F2 o2 (BytesPost.into hh (bytesL_256 _) (by unfold imageW; omega)) R.lines.length hil n1 n2 hlt).mono ?_
    rintro e w' ⟨L2, F', rfl, d2, x2, b2⟩
    refine ⟨L2.g, rfl, ?_⟩
    rw [← hpost]
    exact ⟨L2, F', rfl, d2, fun k hk => x2 k (by have := hB.size; omega), hB.trans (b2.mono hB.size)⟩
  replace him := Lib.hid him
  replace hfrom := Lib.hid hfrom
  clear hpost hil hlt hbl hd hch
  go_enter Try.func46, Try.ntmps46
  go_wp2_with fail
  refine him.out.mono ?_
  rintro e w1 ⟨b, rfl, h1, b1, _⟩
  have hf := Lib.hid (hfrom.out w1 b h1 b1)
  clear h1
  generalize (bytesL (imageW R ch)).length = m at *
  go_wp2_with fail
  refine hf.out.mono ?_
  rintro e w2 ⟨g, rfl, hp⟩
  replace hp := Lib.hid hp
  clear hf him hfrom
  go_wp2_with fail
  first | exact hp.out | (go_ret; exact hp.out)

/-- Four objects: two devices in two states, each in both forms. -/
structure Four (w : World) (B : Nat) (L : Lay) (h T : Nat) (R : Dv) (L' : Lay) (h' T' : Nat) (R' : Dv) (wx : World) : Prop where
  ex : ∃ F, DevSt wx F 0 L T R ∧ RefSt wx F 1 h T R ∧ DevSt wx F 2 L' T' R' ∧ RefSt wx F 3 h' T' R' ∧ Free F B
  b : Below B w wx
  hB : B ≤ w.heap.size
variable {B h' T' : Nat} {L' : Lay} {R' : Dv} {wx : World}
theorem Four.below {w' : World} (hp : Four w B L h T R L' h' T' R' wx) (hb : Below wx.heap.size wx w') : Four w B L h T R L' h' T' R' w' := by
  obtain ⟨F, h1, h2, h3, h4, h5⟩ := hp.ex
  exact ⟨⟨F, h1.below hb, h2.below hb, h3.below hb, h4.below hb, h5⟩, hp.b.trans (hb.mono (Nat.le_trans hp.hB hp.b.size)), hp.hB⟩
theorem Four.drew (hp : Four w B L h T R L' h' T' R' wx) : Four w B L h T R L' h' T' R' wx.drew := hp.below (below_drewN (Below.refl _ _) 1)
theorem Four.same1 (hp : Four w B L h T R L' h' T' R' wx) : Calls Try.prog 15 #[.pointer (some ⟨L.g, 0, none⟩), .pointer (some ⟨h, 0, none⟩)] wx fun e w' => e = .returned (.bool true) ∧ Four w B L h T R L' h' T' R' w' := by
  obtain ⟨F, h1, h2, _⟩ := hp.ex
  exact (same_any h1 h2).mono fun e w' ⟨he, hb⟩ => ⟨he, hp.below hb⟩
theorem Four.same2 (hp : Four w B L h T R L' h' T' R' wx) : Calls Try.prog 15 #[.pointer (some ⟨L'.g, 0, none⟩), .pointer (some ⟨h', 0, none⟩)] wx fun e w' => e = .returned (.bool true) ∧ Four w B L h T R L' h' T' R' w' := by
  obtain ⟨F, _, _, h1, h2, _⟩ := hp.ex
  exact (same_any h1 h2).mono fun e w' ⟨he, hb⟩ => ⟨he, hp.below hb⟩
/-- Two devices, and a third. -/
structure Three (w : World) (B : Nat) (L : Lay) (h T : Nat) (R : Dv) (L' : Lay) (T' : Nat) (R' : Dv) (wx : World) : Prop where
  ex : ∃ F, DevSt wx F 0 L T R ∧ RefSt wx F 1 h T R ∧ DevSt wx F 2 L' T' R' ∧ Free F B
  b : Below B w wx
  hB : B ≤ w.heap.size
theorem Three.below {w' : World} (hp : Three w B L h T R L' T' R' wx) (hb : Below wx.heap.size wx w') : Three w B L h T R L' T' R' w' := by
  obtain ⟨F, h1, h2, h3, h5⟩ := hp.ex
  exact ⟨⟨F, h1.below hb, h2.below hb, h3.below hb, h5⟩, hp.b.trans (hb.mono (Nat.le_trans hp.hB hp.b.size)), hp.hB⟩
theorem Two.crash (hp : Two w B L h T R wx) {ca : Option Addr} {cc : Nat} {ch : List Nat} (hch : BytesIn wx ca cc ch) :
    Calls Try.prog 46 #[.pointer (some ⟨L.g, 0, none⟩), .slice ca ch.length cc] wx fun e w' => ∃ L', e = .returned (.pointer (some ⟨L'.g, 0, none⟩)) ∧ Three w B L h T R L' 0 (crashP R ch) w' ∧ Below wx.heap.size wx w' := by
  obtain ⟨F, h1, h2, h3⟩ := hp.ex
  refine (crash_any h1 F 2 hch).mono ?_
  rintro e w' ⟨L2, F2, he, d, x, b⟩
  have hs := hp.b.size
  have hB := hp.hB
  exact ⟨L2, he, ⟨⟨F2, h1.belowX b x, h2.belowX b x, d, fun k hk => by rw [x k (by omega)]; exact h3 k hk⟩, hp.b.trans (b.mono (Nat.le_trans hB hs)), hB⟩, b⟩
theorem Three.rfrom {n : Nat} {ws : List Nat} {L' : Lay} (hp : Three w B L h T R L' 0 (fromP n ws) wx) {a : Option Addr} {c : Nat} (hb : BytesIn wx a c (bytesL ws)) (hl : ws.length = n * 8) (hw : ∀ x ∈ ws, x < 18446744073709551616) :
    Calls Try.prog 19 #[.slice a (bytesL ws).length c] wx fun e w' => ∃ h', e = .returned (.pointer (some ⟨h', 0, none⟩)) ∧ Four w B L h T R L' h' 0 (fromP n ws) w' := by
  obtain ⟨F, h1, h2, h3, h4⟩ := hp.ex
  have n1 := h3.ok.n1
  have n2 := h3.ok.n2
  rw [fromP_len] at n1 n2
  have k0 := F.drop_keep (o := 3) (o1 := 0) (by omega)
  have k1 := F.drop_keep (o := 3) (o1 := 1) (by omega)
  have k2 := F.drop_keep (o := 3) (o1 := 2) (by omega)
  refine (rfrom_any (F.drop 3) 3 (fun k r _ => F.drop_ne 3 k r) hb n hl n1 n2 hw).mono ?_
  rintro e w' ⟨h', F2, he, d, x, b⟩
  have hs := hp.b.size
  have hB := hp.hB
  refine ⟨h', he, ⟨F2, (h1.retag k0).belowX b x, (h2.retag k1).belowX b x, (h3.retag k2).belowX b x, d, fun k hk => ?_⟩, hp.b.trans (b.mono (Nat.le_trans hB hs)), hB⟩
  rw [x k (by omega)]
  exact h4.drop 3 k hk
theorem Two.image (hp : Two w B L h T R wx) {ca : Option Addr} {cc : Nat} {ch : List Nat} (hch : BytesIn wx ca cc ch) : Calls Try.prog 31 #[.pointer (some ⟨L.g, 0, none⟩), .slice ca ch.length cc] wx (BytesPost wx (bytesL (imageW R ch))) := by
  obtain ⟨F, h1, _⟩ := hp.ex
  exact image_any h1 ca cc ch hch.r hch.m hch.lt
theorem Three.two {L' : Lay} (hp : Three w B L h T R L' T' R' wx) : Two w B L h T R wx := by
  obtain ⟨F, h1, h2, _, h4⟩ := hp.ex
  exact ⟨⟨F, h1, h2, h4⟩, hp.b, hp.hB⟩
theorem Two.rimage (hp : Two w B L h T R wx) {ca : Option Addr} {cc : Nat} {ch : List Nat} (hch : BytesIn wx ca cc ch) : Calls Try.prog 45 #[.pointer (some ⟨h, 0, none⟩), .slice ca ch.length cc] wx (NewBytes wx (bytesL (imageW R ch))) := by
  obtain ⟨F, _, h1, _⟩ := hp.ex
  exact rimage_any h1 hch
theorem Grow.bytesIn {wq wr : World} {a : Option Addr} {c : Nat} {bs : List Nat} (hG : Grow wq wr 5 a bs.length c (u8s bs)) (hb : ∀ x ∈ bs, x < 256) (hm : bs.length ≤ 9223372036854775807) : BytesIn wr a c bs :=
  ⟨Rd.of_own hG.own, hb, hm, (own_cap hG.own _ _ _ rfl).1⟩

set_option maxHeartbeats 8000000 in
set_option maxRecDepth 100000 in
theorem images_walk (W : World) (lines : Int) (a : Option Addr) (c : Nat) (xs : List Evt) (hr : RunIn W lines a c xs) (ca : Option Addr) (clen cc : Nat) (zs : List Int) (hz : IsRow .u8 W ca clen cc zs) :
    Calls Try.prog 9 #[.agg #[.int .i64 lines, .slice a xs.length c], .slice ca clen cc] W fun e w' => e = .returned (.bool true) ∧ Below W.heap.size W w' := by
  obtain ⟨ch0, rfl, hch0⟩ := BytesIn.of_row hz
  have hb1 : Below W.heap.size W (W.alloc (.cells #[.int .i64 lines, .slice a xs.length c] 40)) := (Below.refl _ _).alloc (Nat.le_refl _) _
  have hpl := hr.play hb1 40 40 rfl (by omega)
  have hsh := short_any (hch0.kept hb1) 20 20 rfl
  have hch := hch0.take 20
  generalize ch0.take 20 = ch at *
  generalize playP (newP (nLines lines)) (xs.take 40) = R at *
  have c0 := (Has.new W [.int .i64 lines, .slice a xs.length c] 40).cell (o := 0) rfl
  have c1 := (Has.new W [.int .i64 lines, .slice a xs.length c] 40).cell (o := 1) rfl
  replace hpl := Lib.hid hpl
  replace hb1 := Lib.hid hb1
  replace hsh := Lib.hid hsh
  replace hch := Lib.hid hch
  clear hr hz hch0
  go_enter Try.func9, Try.ntmps9
  go_wp2_with fail
  refine hsh.out.mono ?_
  rintro e w' ⟨rfl, rfl⟩
  go_wp2_with fail
  refine hpl.out.mono ?_
  rintro e w1 ⟨L, h, rfl, t1⟩
  have b1 := hb1.out.trans (t1.b.mono hb1.out.size)
  clear hpl hb1 c0 c1 hsh
  go_wp2_with fail
  refine (awake_any _).mono ?_
  rintro e w2 ⟨rfl, b2⟩
  have t2 := t1.below b2
  have b3 := b1.trans (b2.mono b1.size)
  clear b1 b2 t1
  go_wp2_with fail
  refine (t2.rimage (hch.out.kept b3)).mono ?_
  rintro e w3 ⟨pa, pc, rfl, hG⟩
  have t3 := t2.below hG.b
  have b4 := b3.trans (hG.b.mono b3.size)
  have hok := t3.ok
  have hlen : (bytesL (imageW R ch)).length = R.lines.length * 8 * 8 := by rw [bytesL_len]; unfold imageW; rw [crashW_len hok]
  have n1 := hok.n1
  have n2 := hok.n2
  have hpin := hG.bytesIn (bytesL_256 _) (by omega)
  have hpstr := hG.str (bytesL_256 _) (by omega)
  replace hlen := Lib.hid hlen
  clear hG t2 b3
  go_wp2_with fail
  refine (t3.crash (hch.out.kept b4)).mono ?_
  rintro e w4 ⟨L2, rfl, th, b5⟩
  have b6 := b4.trans (b5.mono b4.size)
  have sP := hpstr.up b5
  have pin := hpin.kept b5
  have hil := crashW_len hok (chK R ch)
  have hlt := crashW_lt hok (chK R ch)
  have hchw := hch.out.kept b6
  have sImg : ∀ wx, Below w4.heap.size w4 wx → Calls Try.prog 31 #[.pointer (some ⟨L.g, 0, none⟩), .slice ca ch.length cc] wx (SPost wx (strOf (bytesL (imageW R ch)))) := fun wx hB => ((th.two.below hB).image (hchw.kept hB)).mono fun _ _ x => x.s
  have hRF : ∀ wx, Below w4.heap.size w4 wx → Calls Try.prog 19 #[.slice pa (bytesL (imageW R ch)).length pc] wx (fun e w' => ∃ h', e = .returned (.pointer (some ⟨h', 0, none⟩)) ∧ Four (W.alloc (.cells #[.int .i64 lines, .slice a xs.length c] 40)) (W.alloc (.cells #[.int .i64 lines, .slice a xs.length c] 40)).heap.size L h (2 * 40) R L2 h' 0 (crashP R ch) w') := fun wx hB => (th.below hB).rfrom (pin.kept hB) hil hlt
  have hS1 : ∀ wx hc, Four (W.alloc (.cells #[.int .i64 lines, .slice a xs.length c] 40)) (W.alloc (.cells #[.int .i64 lines, .slice a xs.length c] 40)).heap.size L h (2 * 40) R L2 hc 0 (crashP R ch) wx → Calls Try.prog 15 #[.pointer (some ⟨L.g, 0, none⟩), .pointer (some ⟨h, 0, none⟩)] wx fun e w' => e = .returned (.bool true) ∧ Four (W.alloc (.cells #[.int .i64 lines, .slice a xs.length c] 40)) (W.alloc (.cells #[.int .i64 lines, .slice a xs.length c] 40)).heap.size L h (2 * 40) R L2 hc 0 (crashP R ch) w' := fun wx hc hp => hp.same1
  have hS2 : ∀ hc wx, Four (W.alloc (.cells #[.int .i64 lines, .slice a xs.length c] 40)) (W.alloc (.cells #[.int .i64 lines, .slice a xs.length c] 40)).heap.size L h (2 * 40) R L2 hc 0 (crashP R ch) wx → Calls Try.prog 15 #[.pointer (some ⟨L2.g, 0, none⟩), .pointer (some ⟨hc, 0, none⟩)] wx fun e w' => e = .returned (.bool true) ∧ Four (W.alloc (.cells #[.int .i64 lines, .slice a xs.length c] 40)) (W.alloc (.cells #[.int .i64 lines, .slice a xs.length c] 40)).heap.size L h (2 * 40) R L2 hc 0 (crashP R ch) w' := fun hc wx hp => hp.same2
  replace hS1 := Lib.hid hS1
  replace hS2 := Lib.hid hS2
  generalize strOf (bytesL (imageW R ch)) = sp at *
  have cP := sP _ (Below.refl _ _)
  have cPd := sP _ (Fr.drew (Below.refl _ _))
  generalize (bytesL (imageW R ch)).length = pl at *
  replace sImg := Lib.hid sImg
  replace hRF := Lib.hid hRF
  replace hchw := Lib.hid hchw
  clear hpin hpstr hlen hil hlt hok t3 b4 b5 pin th hch
  have hB0 : Below w4.heap.size w4 w4 := Below.refl _ _
  go_wp2_with fail
  go_region_with ((first
    | (go_at_call 31; refine (sImg.out _ (by first | exact hB0 | exact Fr.drew hB0)).mono ?_; rintro e wa ⟨va, rfl, sA, bA⟩; have kA : Below w4.heap.size w4 wa := (by first | exact Fr.step hB0 bA | exact Fr.step (Fr.drew hB0) bA); have sP2 := sP.up kA; have cA := sA _ (Below.refl _ _); have cAd := sA _ (Fr.drew (Below.refl _ _)); have cP2 := sP2 _ (Below.refl _ _); have cP2d := sP2 _ (Fr.drew (Below.refl _ _)); clear sP2 sA)
    | (go_at_call 19; refine (hRF.out _ (by first | exact kA | exact Fr.drew kA)).mono ?_; rintro e wb ⟨hc, rfl, f1⟩)
    | (go_at_call 15; (with_reducible refine (hS2.out _ _ ?_).mono ?_); (first | exact f1 | exact f1.drew); rintro e wc ⟨rfl, f2⟩; clear f1)
    | (go_at_call 15; (with_reducible refine (hS1.out _ hc ?_).mono ?_); (first | exact f2 | exact f2.drew); rintro e wd ⟨rfl, f3⟩)))
  all_goals
    have kE : Below W.heap.size W wd := ((Below.refl W.heap.size W).alloc (Nat.le_refl _) (.cells #[.int .i64 lines, .slice a xs.length c] 40)).trans (f3.b.mono (by simp))
    clear f2 f3
    go_wp2_with fail
    go_ret
    exact ⟨rfl, by first | exact kE | exact Fr.drew kE⟩
end Go.Proofs.Ytkmhanjddkplbaa
