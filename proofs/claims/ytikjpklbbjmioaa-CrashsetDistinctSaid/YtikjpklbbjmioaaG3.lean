/- The law's Begin and Play. -/
import Derived.Test.YtikjpklbbjmioaaG2
import Derived.Test.YtikjpklbbjmioaaF3
import Derived.Test.YtikjpklbbjmioaaD16
import Derived.Test.YtikjpklbbjmioaaE11
namespace Go.Proofs.Ytikjpklbbjmioaa
open Go.RowKit Go.Maps
variable {w : World} {F : Own} {o o' h T : Nat} {R : Dv} {L : Lay}

theorem DevSt.belowX {w' : World} {F' : Own} (h : DevSt w F o L T R) (hb : Below w.heap.size w w') (hx : Ext w F F') : DevSt w' F' o L T R :=
  have hO : Only (fun _ => False) w w' := ⟨hb.os, hb.tape, hb.output, hb.size, fun k hk _ => hb.block k hk⟩
  h.kept hO hx (fun _ _ s => s.elim)
def noOwn : Own := fun _ => none
theorem Free.none (B : Nat) : Free noOwn B := fun _ _ => rfl
/-- Both devices in one state; B: below it no block is theirs, and nothing has changed since w. -/
structure Two (w : World) (B : Nat) (L : Lay) (h T : Nat) (R : Dv) (wx : World) : Prop where
  ex : ∃ F, DevSt wx F 0 L T R ∧ RefSt wx F 1 h T R ∧ Free F B
  b : Below B w wx
  hB : B ≤ w.heap.size
theorem Two.below {B : Nat} {wx w' : World} (hp : Two w B L h T R wx) (hb : Below wx.heap.size wx w') : Two w B L h T R w' := by
  obtain ⟨F, h1, h2, h3⟩ := hp.ex
  exact ⟨⟨F, h1.below hb, h2.below hb, h3⟩, hp.b.trans (hb.mono (Nat.le_trans hp.hB hp.b.size)), hp.hB⟩
theorem Two.drewN {B : Nat} {wx : World} (hp : Two w B L h T R wx) (n : Nat) : Two w B L h T R (wx.drewN n) := hp.below (below_drewN (Below.refl _ _) n)
theorem Two.alloc {B : Nat} {wx : World} (hp : Two w B L h T R wx) (x : Obj) : Two w B L h T R (wx.alloc x) := hp.below ((Below.refl _ _).alloc (Nat.le_refl _) x)
theorem Two.ok {B : Nat} {wx : World} (hp : Two w B L h T R wx) : R.Ok T := by obtain ⟨F, h1, _⟩ := hp.ex; exact h1.ok
theorem Two.same {B : Nat} {wx : World} (hp : Two w B L h T R wx) : Calls Try.prog 30 #[.pointer (some ⟨L.g, 0, none⟩), .pointer (some ⟨h, 0, none⟩)] wx fun e w' => e = .returned (.bool true) ∧ Two w B L h T R w' := by
  obtain ⟨F, h1, h2, _⟩ := hp.ex
  exact (same_any h1 h2).mono fun e w' ⟨he, hb⟩ => ⟨he, hp.below hb⟩
theorem Two.do {B : Nat} {wx : World} (hp : Two w B L h T R wx) (hT : T + 2 ≤ 100000) (x : Evt) (hx : x.Fit) :
    Calls Try.prog 43 #[.pointer (some ⟨L.g, 0, none⟩), .pointer (some ⟨h, 0, none⟩), .agg #[.int .i64 x.kind, .int .i64 x.thr, .int .u64 (x.off : Int), .int .u64 (x.old : Int), .int .u64 (x.val : Int), .int .i64 x.n]] wx fun e w' => e = .returned (.bool true) ∧ Two w B L h (T + 2) (doP R x) w' := by
  obtain ⟨F, h1, h2, h3⟩ := hp.ex
  have hBx := Nat.le_trans hp.hB hp.b.size
  exact (do_any h1 h2 (by omega) hT x hx).mono fun e w' ⟨F', he, d1, d2, hs⟩ => ⟨he, ⟨F', d1, d2, h3.step2 hs hBx⟩, hp.b.trans (h3.below2 hs hBx), hp.hB⟩

def nLines (a : Int) : Nat := 1 + (a % 6).toNat
def BeginPost (w : World) (R : Dv) (e : Ending) (w' : World) : Prop :=
  ∃ L h, e = .returned (.tuple #[.pointer (some ⟨L.g, 0, none⟩), .pointer (some ⟨h, 0, none⟩)]) ∧ Two w w.heap.size L h 0 R w'
set_option maxHeartbeats 2000000 in
theorem begin_any (w : World) (a : Int) (ha : i64B a) : Calls Try.prog 104 #[.int .i64 a] w (BeginPost w (newP (nLines a))) := by
  generalize hpost : BeginPost w (newP (nLines a)) = post
  have hmod : modC a 6 (a % 6) := mod_lit (k := 6) rfl (by omega) (by omega) ha rfl
  have hm0 : 0 ≤ a % 6 := by omega
  have hm1 : a % 6 < 6 := by omega
  have hnl : ((nLines a : Nat) : Int) = 1 + a % 6 := by unfold nLines; omega
  have hN : ∀ wx, Calls Try.prog 14 #[.int .i64 (1 + a % 6)] wx (NewPost wx noOwn 0 (newP (nLines a))) := fun wx => by
    have := new_any wx noOwn 0 (nLines a) (by unfold nLines; omega) (by unfold nLines; omega)
    rw [hnl] at this; exact this
  have hR : ∀ wx F, Calls Try.prog 18 #[.int .i64 (1 + a % 6)] wx (RNewPost wx F 1 (newP (nLines a))) := fun wx F => by
    have := rnew_any wx F 1 (nLines a) (by unfold nLines; omega) (by unfold nLines; omega)
    rw [hnl] at this; exact this
  generalize a % 6 = r at *
  generalize newP (nLines a) = R at *
  replace hN := Lib.hid hN
  replace hR := Lib.hid hR
  replace hmod := Lib.hid hmod
  replace hpost := Lib.hid hpost
  clear hnl
  go_enter Try.func104, Try.ntmps104
  go_wp2_with fail
  refine (hmod.out _).mono ?_
  rintro e w' ⟨rfl, rfl⟩
  go_wp2_with fail
  refine (hN.out _).mono ?_
  rintro e w1 ⟨L, F1, rfl, d1, x1, b1⟩
  replace hN := d1
  go_wp2_with fail
  refine (hR.out _ F1).mono ?_
  rintro e w2 ⟨h, F2, rfl, r2, x2, b2⟩
  have hf : post (.returned (.tuple #[.pointer (some ⟨L.g, 0, none⟩), .pointer (some ⟨h, 0, none⟩)])) w2 := by
    rw [← hpost.out]
    refine ⟨L, h, rfl, ⟨F2, d1.belowX b2 x2, r2, fun k hk => ?_⟩, b1.trans (b2.mono b1.size), Nat.le_refl _⟩
    rw [x2 k (by have := b1.size; omega), x1 k hk]; rfl
  replace hf := Lib.hid hf
  clear hN d1 r2 x1 x2 b1 b2 hR hmod hpost
  go_wp2_with fail
  first | exact hf.out | (go_ret2; exact hf.out)

def evtCells (xs : List Evt) : List Value := xs.flatMap Evt.cells
theorem evtCells_get : ∀ (xs : List Evt) (i : Nat) (x : Evt), xs[i]? = some x → ∀ j v, x.cells[j]? = some v → (evtCells xs)[i * 6 + j]? = some v
  | q :: xs, 0, x, h, j, v, hj => by
    simp at h; subst h
    have : j < q.cells.length := by
      rcases Nat.lt_or_ge j q.cells.length with h1 | h1
      · exact h1
      · rw [List.getElem?_eq_none h1] at hj; cases hj
    simp only [evtCells, List.flatMap_cons, Nat.zero_mul, Nat.zero_add]
    rw [List.getElem?_append_left this]; exact hj
  | q :: xs, i + 1, x, h, j, v, hj => by
    have := evtCells_get xs i x (by simpa using h) j v hj
    have e1 : (i + 1) * 6 + j = q.cells.length + (i * 6 + j) := by show _ = 6 + _; omega
    simp only [evtCells, List.flatMap_cons]
    rw [e1, List.getElem?_append_right (by omega), Nat.add_sub_cancel_left]
    exact this
  | [], _, _, h, _, _, _ => by simp at h
def evt0 : Evt := ⟨0, 0, 0, 0, 0, 0⟩
/-- Play's own loop: the state, and the box of the argument. -/
structure PlayR (w : World) (bx : Nat) (cs : List Value) (L : Lay) (h : Nat) (R0 : Dv) (xs : List Evt) (i : Nat) (wr : World) : Prop where
  two : Two (w.alloc (.cells cs.toArray 54)) (bx + 1) L h (2 * i) (playP R0 (xs.take i)) wr
  e : bx = w.heap.size
theorem PlayR.box {bx : Nat} {cs : List Value} {R0 : Dv} {xs : List Evt} {i : Nat} {wr : World} (hp : PlayR w bx cs L h R0 xs i wr) : Has wr bx cs 54 := by
  have := hp.e; subst this
  exact (Has.new w cs 54).only (Only.of_below hp.two.b) (by omega)
theorem PlayR.below {bx : Nat} {cs : List Value} {R0 : Dv} {xs : List Evt} {i : Nat} {wr : World} (hp : PlayR w bx cs L h R0 xs i wr) : Below w.heap.size w wr := by
  have := hp.e; subst this
  exact ((Below.refl w.heap.size w).alloc (Nat.le_refl _) _).trans (hp.two.b.mono (by omega))
def PlayPost (w : World) (T : Nat) (R : Dv) (e : Ending) (w' : World) : Prop :=
  ∃ L h, e = .returned (.tuple #[.pointer (some ⟨L.g, 0, none⟩), .pointer (some ⟨h, 0, none⟩)]) ∧ Two w w.heap.size L h T R w'
theorem Two.lower {w0 w wx : World} {B B' : Nat} (hp : Two w B L h T R wx) (hb : Below B' w0 w) (hB : B' ≤ B) (hB0 : B' ≤ w0.heap.size) : Two w0 B' L h T R wx := by
  obtain ⟨F, h1, h2, h3⟩ := hp.ex
  exact ⟨⟨F, h1, h2, fun k hk => h3 k (by omega)⟩, hb.trans (hp.b.mono hB), hB0⟩
set_option maxHeartbeats 8000000 in
set_option maxRecDepth 100000 in
theorem play_any (w : World) (lines : Int) (hlines : i64B lines) (xs : List Evt) (hf : ∀ x ∈ xs, x.Fit) (a : Option Addr) (c : Nat) (hr : Rd w (.slice a xs.length c) xs.length (evtCells xs)) (hxl : xs.length ≤ 9223372036854775807) (n : Nat) (nI : Int) (hn : nI = (n : Int)) (hn2 : n ≤ 1000) :
    Calls Try.prog 61 #[.agg #[.int .i64 lines, .slice a xs.length c], .int .i64 nI] w (PlayPost w (2 * n) (playP (newP (nLines lines)) (xs.take n))) := by
  generalize hpost : PlayPost w (2 * n) (playP (newP (nLines lines)) (xs.take n)) = post
  have hbe := fun wx => begin_any wx lines hlines
  have hs : ∀ (L : Lay) h T R B wx, Two (w.alloc (.cells #[.int .i64 lines, .slice a xs.length c] 54)) B L h T R wx → Calls Try.prog 30 #[.pointer (some ⟨L.g, 0, none⟩), .pointer (some ⟨h, 0, none⟩)] wx fun e w' => e = .returned (.bool true) ∧ Two (w.alloc (.cells #[.int .i64 lines, .slice a xs.length c] 54)) B L h T R w' := fun L h T R B wx hp => hp.same
  have hfin : ∀ L h i wr, i = n ∨ (i ≤ n ∧ i = xs.length) → PlayR w w.heap.size [.int .i64 lines, .slice a xs.length c] L h (newP (nLines lines)) xs i wr → post (.returned (.tuple #[.pointer (some ⟨L.g, 0, none⟩), .pointer (some ⟨h, 0, none⟩)])) wr := fun L h i wr hi hp => by
    rw [← hpost]
    have e1 : xs.take i = xs.take n := by
      rcases hi with rfl | ⟨h1, rfl⟩
      · rfl
      · rw [List.take_length, List.take_of_length_le h1]
    have := hp.two
    rw [e1] at this
    obtain ⟨F', d1, d2, d3⟩ := this.ex
    have hle : i ≤ n := by omega
    exact ⟨L, h, rfl, ⟨F', d1.up (by omega) (by omega), d2.up (by omega) (by omega), fun k hk => d3 k (by omega)⟩, hp.below, Nat.le_refl _⟩
  have hw0 : Has (w.alloc (.cells #[.int .i64 lines, .slice a xs.length c] 54)) w.heap.size [.int .i64 lines, .slice a xs.length c] 54 := Has.new _ _ _
  have c0 := hw0.cell (o := 0) rfl
  generalize newP (nLines lines) = R0 at *
  replace hbe := Lib.hid hbe
  replace hs := Lib.hid hs
  replace hfin := Lib.hid hfin
  replace hf := Lib.hid hf
  replace hr := Lib.hid hr
  replace hn := Lib.hid hn
  clear hpost hw0
  go_enter Try.func61, Try.ntmps61
  go_wp2_with fail
  refine (hbe.out _).mono ?_
  rintro e w1 ⟨L, h, rfl, t1⟩
  have t1' := t1
  simp only [World.size_alloc] at t1'
  clear t1
  go_wp2_with fail
  refine (hs.out L h _ _ _ _ t1').mono ?_
  rintro e w2 ⟨rfl, t2⟩
  have p2 : PlayR w w.heap.size [.int .i64 lines, .slice a xs.length c] L h R0 xs 0 w2 := ⟨t2, rfl⟩
  clear t1' t2 c0
  go_wp2_with fail
  go_loopw [8] (fun i wr => ∃ k : Nat, k ≤ n ∧ k ≤ xs.length ∧ i = .int .i64 k ∧ PlayR w w.heap.size [.int .i64 lines, .slice a xs.length c] L h R0 xs k wr) (fun i _ => n - (intOf i).toNat)
  case atStart => exact ⟨0, Nat.zero_le _, Nat.zero_le _, rfl, p2⟩
  case round =>
    clear p2
    obtain ⟨k, hk, hkl, rfl, hp⟩ := hrel
    have c1 := hp.box.cell (o := 1) rfl
    by_cases hlt : k < xs.length
    · have hd1 : decide (k < xs.length) = true := decide_eq_true hlt
      by_cases hltn : k < n
      · have hd2 : decide ((k : Int) < nI) = true := decide_eq_true (by rw [hn.out]; omega)
        have hd2' : (k : Int) < nI := by rw [hn.out]; omega
        have hkI : (k : Int) < (xs.length : Int) := by omega
        have hk0 : (0 : Int) ≤ (k : Int) := by omega
        obtain ⟨bl, ol, cl, ea, fa⟩ := (hr.out.kept hp.below).cells (by omega)
        simp only [Value.slice.injEq, true_and] at ea
        obtain ⟨rfl, e1⟩ := ea
        have hat := get_of_lt evt0 hlt
        have hfx : (xs.getD k evt0).Fit := hf.out _ (mem_getD evt0 hlt)
        have hnext : ∀ wx, Two (w.alloc (.cells #[.int .i64 lines, .slice (some ⟨bl, ol, none⟩) xs.length c] 54)) (w.heap.size + 1) L h (2 * k + 2) (doP (playP R0 (xs.take k)) (xs.getD k evt0)) wx → PlayR w w.heap.size [.int .i64 lines, .slice (some ⟨bl, ol, none⟩) xs.length c] L h R0 xs (k + 1) wx := fun wx t => by
          rw [← playP_take R0 xs k evt0 hlt, show 2 * k + 2 = 2 * (k + 1) by omega] at t
          exact ⟨t, rfl⟩
        have hdo := hp.two.do (by omega) _ hfx
        generalize xs.getD k evt0 = x at *
        have x0 : wr.cell? ⟨bl, ol + k * 6, none⟩ = _ := fa _ _ (evtCells_get xs k x hat 0 _ rfl)
        have x1 : wr.cell? ⟨bl, ol + k * 6 + 1, none⟩ = _ := fa _ _ (evtCells_get xs k x hat 1 _ rfl)
        have x2 : wr.cell? ⟨bl, ol + k * 6 + 2, none⟩ = _ := fa _ _ (evtCells_get xs k x hat 2 _ rfl)
        have x3 : wr.cell? ⟨bl, ol + k * 6 + 3, none⟩ = _ := fa _ _ (evtCells_get xs k x hat 3 _ rfl)
        have x4 : wr.cell? ⟨bl, ol + k * 6 + 4, none⟩ = _ := fa _ _ (evtCells_get xs k x hat 4 _ rfl)
        have x5 : wr.cell? ⟨bl, ol + k * 6 + 5, none⟩ = _ := fa _ _ (evtCells_get xs k x hat 5 _ rfl)
        replace hat := Lib.hid hat
        replace e1 := Lib.hid e1
        replace hdo := Lib.hid hdo
        replace hnext := Lib.hid hnext
        clear fa hp hfx
        go_wp2_with fail
        refine hdo.out.mono ?_
        rintro e w3 ⟨rfl, t3⟩
        clear x0 x1 x2 x3 x4 x5 c1
        go_wp2_with fail
        refine (hs.out L h _ _ _ _ t3).mono ?_
        rintro e w4 ⟨rfl, t4⟩
        have p4 := hnext.out _ t4
        clear t3 t4
        go_wp2_with fail
        exact ⟨⟨k + 1, by omega, by omega, by go_num, p4⟩, by simp [intOf]; omega⟩
      · have hd2 : decide ((k : Int) < nI) = false := decide_eq_false (by rw [hn.out]; omega)
        have hd2' : ¬ (k : Int) < nI := by rw [hn.out]; omega
        have hff := Lib.hid (hfin.out L h k wr (.inl (by omega)) hp)
        clear hp
        go_wp2_with fail
        first | exact hff.out | (go_ret2; exact hff.out)
    · have hd1 : decide (k < xs.length) = false := decide_eq_false hlt
      have hff := Lib.hid (hfin.out L h k wr (.inr ⟨hk, by omega⟩) hp)
      clear hp
      go_wp2_with fail
      first | exact hff.out | (go_ret2; exact hff.out)
end Go.Proofs.Ytikjpklbbjmioaa
