/- The law's Do: an event on both devices. -/
import Derived.Test.YtikjpklbbjmioaaF2
import Derived.Test.YtikjpklbbjmioaaD15
import Derived.Test.YtikjpklbbjmioaaE7
import Derived.Test.YtikjpklbbjmioaaD11
import Derived.Test.YtikjpklbbjmioaaG1
import Derived.LaidEqlPtr
namespace Go.Proofs.Ytikjpklbbjmioaa
open Go.RowKit Go.Maps
variable {w : World} {F : Own} {o o' h T : Nat} {R : Dv} {L : Lay}

/-- What a call that works on two objects does to the heap. -/
structure Dst2 (w : World) (F : Own) (o o' : Nat) (w' : World) (F' : Own) : Prop where
  ext : Ext w F F'
  only : Only (fun k => Mine F o k ∨ Mine F o' k) w w'
theorem Dst2.refl (w : World) (F : Own) (o o' : Nat) : Dst2 w F o o' w F := ⟨Ext.refl _ _, Only.refl _ _⟩
theorem Dst2.left {w' : World} {F' : Own} (h : Dstep w F o w' F') (o' : Nat) : Dst2 w F o o' w' F' := ⟨h.ext, h.only.mono fun _ _ s => .inl s⟩
theorem Dst2.right {w' : World} {F' : Own} (h : Dstep w F o' w' F') (o : Nat) : Dst2 w F o o' w' F' := ⟨h.ext, h.only.mono fun _ _ s => .inr s⟩
theorem Mine.back {F' : Own} {k : Nat} (hx : Ext w F F') (hk : k < w.heap.size) (h : Mine F' o k) : Mine F o k := by
  obtain ⟨r, s⟩ := h; exact ⟨r, by rw [← hx k hk]; exact s⟩
theorem Dst2.trans {w1 w2 : World} {F1 F2 : Own} (h : Dst2 w F o o' w1 F1) (h' : Dst2 w1 F1 o o' w2 F2) : Dst2 w F o o' w2 F2 :=
  ⟨h.ext.trans h'.ext h.only.size, h.only.trans' h'.only fun _ hk s => s.imp (fun s => Mine.back h.ext hk s) (fun s => Mine.back h.ext hk s)⟩
theorem Dst2.below {w1 : World} (h : Below w.heap.size w w1) : Dst2 w F o o' w1 F := Dst2.left (Dstep.below h) o'
theorem DevSt.other2 {w' : World} {F' : Own} {o1 o2 : Nat} (h : DevSt w F o L T R) (hd : Dst2 w F o1 o2 w' F') (h1 : o ≠ o1) (h2 : o ≠ o2) : DevSt w' F' o L T R :=
  h.kept hd.only hd.ext fun k r s e' => by
    rcases s with ⟨s, e⟩ | ⟨s, e⟩
    · rw [e] at e'; cases e'; exact h1 rfl
    · rw [e] at e'; cases e'; exact h2 rfl
theorem RefSt.other2 {w' : World} {F' : Own} {o1 o2 : Nat} (hr : RefSt w F o h T R) (hd : Dst2 w F o1 o2 w' F') (h1 : o ≠ o1) (h2 : o ≠ o2) : RefSt w' F' o h T R :=
  hr.kept hd.only hd.ext fun k r s e' => by
    rcases s with ⟨s, e⟩ | ⟨s, e⟩
    · rw [e] at e'; cases e'; exact h1 rfl
    · rw [e] at e'; cases e'; exact h2 rfl
theorem Free.step2 {w' : World} {F' : Own} {B : Nat} (h : Free F B) (hd : Dst2 w F o o' w' F') (hB : B ≤ w.heap.size) : Free F' B := fun k hk => (hd.ext k (by omega)).trans (h k hk)
theorem Free.below2 {w' : World} {F' : Own} {B : Nat} (h : Free F B) (hd : Dst2 w F o o' w' F') (hB : B ≤ w.heap.size) : Below B w w' :=
  hd.only.below hB fun k hk s => by
    rcases Nat.lt_or_ge k B with h1 | h1
    · rcases s with ⟨r, s⟩ | ⟨r, s⟩ <;> (rw [h k h1] at s; cases s)
    · exact h1

def Evt.cells (x : Evt) : List Value := [.int .i64 x.kind, .int .i64 x.thr, .int .u64 (x.off : Int), .int .u64 (x.old : Int), .int .u64 (x.val : Int), .int .i64 x.n]
def Evt.v (x : Evt) : Value := .agg #[.int .i64 x.kind, .int .i64 x.thr, .int .u64 (x.off : Int), .int .u64 (x.old : Int), .int .u64 (x.val : Int), .int .i64 x.n]
def DoPost (w : World) (F : Own) (o o' h T : Nat) (L : Lay) (R : Dv) (e : Ending) (w' : World) : Prop :=
  ∃ F', e = .returned (.bool true) ∧ DevSt w' F' o L T R ∧ RefSt w' F' o' h T R ∧ Dst2 w F o o' w' F'


/-- The state within Do: both objects, and the event's own box. -/
structure Ph (w : World) (F : Own) (o o' h : Nat) (L : Lay) (b : Nat) (cs : List Value) (T1 : Nat) (R1 : Dv) (T2 : Nat) (R2 : Dv) (wx : World) : Prop where
  ex : ∃ F', DevSt wx F' o L T1 R1 ∧ RefSt wx F' o' h T2 R2 ∧ Dst2 w F o o' wx F' ∧ Has wx b cs 84 ∧ F' b = none
variable {b T1 T2 T1' T2' : Nat} {R1 R2 R1' R2' : Dv} {cs : List Value} {wx : World}
theorem Ph.drewN (hp : Ph w F o o' h L b cs T1 R1 T2 R2 wx) (n : Nat) : Ph w F o o' h L b cs T1 R1 T2 R2 (wx.drewN n) := by
  obtain ⟨F', h1, h2, h3, h4, h5⟩ := hp.ex
  exact ⟨F', h1.drewN n, h2.drewN n, ⟨h3.ext, h3.only.drewN n⟩, h4.drewN n, h5⟩
theorem Ph.drew (hp : Ph w F o o' h L b cs T1 R1 T2 R2 wx) : Ph w F o o' h L b cs T1 R1 T2 R2 wx.drew := hp.drewN 1
def Ph6 (w : World) (F : Own) (o o' h : Nat) (L : Lay) (b : Nat) (kd th n : Int) (off old val : Nat) (T1 : Nat) (R1 : Dv) (T2 : Nat) (R2 : Dv) (wx : World) : Prop :=
  Ph w F o o' h L b [.int .i64 kd, .int .i64 th, .int .u64 (off : Int), .int .u64 (old : Int), .int .u64 (val : Int), .int .i64 n] T1 R1 T2 R2 wx
def PhPost (w : World) (F : Own) (o o' h : Nat) (L : Lay) (b : Nat) (kd th n : Int) (off old val : Nat) (T1 : Nat) (R1 : Dv) (T2 : Nat) (R2 : Dv) (v : Value) (e : Ending) (w' : World) : Prop :=
  e = .returned v ∧ w'.cell? ⟨b, 0, none⟩ = some (.int .i64 kd) ∧ w'.cell? ⟨b, 1, none⟩ = some (.int .i64 th) ∧ w'.cell? ⟨b, 2, none⟩ = some (.int .u64 (off : Int)) ∧ w'.cell? ⟨b, 3, none⟩ = some (.int .u64 (old : Int)) ∧ w'.cell? ⟨b, 4, none⟩ = some (.int .u64 (val : Int)) ∧ w'.cell? ⟨b, 5, none⟩ = some (.int .i64 n) ∧
    Ph6 w F o o' h L b kd th n off old val T1 R1 T2 R2 w'
variable {kd th n : Int} {off old val : Nat} {v : Value}
theorem Ph6.drew (hp : Ph6 w F o o' h L b kd th n off old val T1 R1 T2 R2 wx) : Ph6 w F o o' h L b kd th n off old val T1 R1 T2 R2 wx.drew := Ph.drew hp
theorem Ph6.drewN (hp : Ph6 w F o o' h L b kd th n off old val T1 R1 T2 R2 wx) (m : Nat) : Ph6 w F o o' h L b kd th n off old val T1 R1 T2 R2 (wx.drewN m) := Ph.drewN hp m
theorem Ph6.cells (hp : Ph6 w F o o' h L b kd th n off old val T1 R1 T2 R2 wx) (_hv : v = v) : PhPost w F o o' h L b kd th n off old val T1 R1 T2 R2 v (.returned v) wx := by
  obtain ⟨F', h1, h2, h3, h4, h5⟩ := hp.ex
  exact ⟨rfl, h4.cell (o := 0) rfl, h4.cell (o := 1) rfl, h4.cell (o := 2) rfl, h4.cell (o := 3) rfl, h4.cell (o := 4) rfl, h4.cell (o := 5) rfl, ⟨F', h1, h2, h3, h4, h5⟩⟩
theorem Ph6.dev {f : Nat} {args : Array Value} (hp : Ph6 w F o o' h L b kd th n off old val T1 R1 T2 R2 wx) (hn : o ≠ o')
    (hc : ∀ F', DevSt wx F' o L T1 R1 → Calls Try.prog f args wx (DPost wx F' o L T1' R1' v)) : Calls Try.prog f args wx (PhPost w F o o' h L b kd th n off old val T1' R1' T2 R2 v) := by
  obtain ⟨F', h1, h2, h3, h4, h5⟩ := hp.ex
  refine (hc F' h1).mono fun e w' ⟨F'', he, hd, hs⟩ => ?_
  subst he
  refine Ph6.cells (v := v) ⟨F'', hd, h2.other hs (Ne.symm hn), h3.trans (Dst2.left hs o'), h4.only hs.only ?_, (hs.ext _ h4.lt).trans h5⟩ rfl
  rintro ⟨r, e⟩; rw [h5] at e; cases e
theorem Ph6.ref {f : Nat} {args : Array Value} (hp : Ph6 w F o o' h L b kd th n off old val T1 R1 T2 R2 wx) (hn : o ≠ o')
    (hc : ∀ F', RefSt wx F' o' h T2 R2 → Calls Try.prog f args wx (RPost wx F' o' h T2' R2' v)) : Calls Try.prog f args wx (PhPost w F o o' h L b kd th n off old val T1 R1 T2' R2' v) := by
  obtain ⟨F', h1, h2, h3, h4, h5⟩ := hp.ex
  refine (hc F' h2).mono fun e w' ⟨F'', he, hd, hs⟩ => ?_
  subst he
  refine Ph6.cells (v := v) ⟨F'', h1.other hs hn, hd, h3.trans (Dst2.right hs o), h4.only hs.only ?_, (hs.ext _ h4.lt).trans h5⟩ rfl
  rintro ⟨r, e⟩; rw [h5] at e; cases e
theorem Ph6.quiet {f : Nat} {args : Array Value} (hp : Ph6 w F o o' h L b kd th n off old val T1 R1 T2 R2 wx)
    (hc : ∀ F', DevSt wx F' o L T1 R1 → Calls Try.prog f args wx fun e w' => e = .returned v ∧ wx = w') : Calls Try.prog f args wx (fun e w' => e = .returned v ∧ wx = w') := by
  obtain ⟨F', h1, h2, h3, h4, h5⟩ := hp.ex
  exact hc F' h1
theorem Ph6.start (h1 : DevSt w F o L T R) (h2 : RefSt w F o' h T R) (kd th n : Int) (off old val : Nat) :
    Ph6 w F o o' h L w.heap.size kd th n off old val T R T R (w.alloc (.cells #[.int .i64 kd, .int .i64 th, .int .u64 (off : Int), .int .u64 (old : Int), .int .u64 (val : Int), .int .i64 n] 84)) := by
  have hs := (Only.refl (fun k => Mine F o k ∨ Mine F o' k) w).alloc (.cells #[.int .i64 kd, .int .i64 th, .int .u64 (off : Int), .int .u64 (old : Int), .int .u64 (val : Int), .int .i64 n] 84)
  refine ⟨F.trim w, h1.trim.alloc _, ?_, ⟨F.trim_ext w, hs⟩, Has.new _ _ _, F.trim_new w (Nat.le_refl _)⟩
  exact (h2.kept (Only.refl (fun _ => False) _) (F.trim_ext w) (fun _ _ s => s.elim)).alloc _
theorem Ph6.fin (hp : Ph6 w F o o' h L b kd th n off old val T1 R1 T2 R2 wx) (e1 : R1 = R) (e2 : R2 = R) (ht1 : T1 ≤ T) (ht2 : T2 ≤ T) (hT : T ≤ 100000) : DoPost w F o o' h T L R (.returned (.bool true)) wx := by
  subst e1 e2
  obtain ⟨F', h1, h2, h3, h4, h5⟩ := hp.ex
  exact ⟨F', rfl, h1.up ht1 hT, h2.up ht2 hT, h3⟩
def modC (a m v : Int) : Prop := ∀ wx, Calls Try.prog 84 #[.int .i64 a, .int .i64 m] wx fun e w' => e = .returned (.int .i64 v) ∧ wx = w'
set_option maxHeartbeats 4000000 in
set_option maxRecDepth 100000 in
theorem do_0 (h1 : DevSt w F o L T R) (h2 : RefSt w F o' h T R) (hn : o ≠ o') (hT : T + 2 ≤ 100000) (kd th n : Int) (t off old val : Nat) (ht : t < 8) (ho : off < 18446744073709551616) (hd : old < 18446744073709551616) (hv : val < 18446744073709551616) (hni : n ≤ 9223372036854775807)
    (hmt : modC th 8 (t : Int)) (hmk : modC kd 7 0) :
    Calls Try.prog 43 #[.pointer (some ⟨L.g, 0, none⟩), .pointer (some ⟨h, 0, none⟩), .agg #[.int .i64 kd, .int .i64 th, .int .u64 (off : Int), .int .u64 (old : Int), .int .u64 (val : Int), .int .i64 n]] w (DoPost w F o o' h (T + 2) L (mayP R t (R.isB off))) := by
  have _u := And.intro ho (And.intro hd (And.intro hv hni))
  generalize hpost : DoPost w F o o' h (T + 2) L (mayP R t (R.isB off)) = post
  have hok := h1.ok
  have hP := Ph6.start h1 h2 kd th n off old val
  have hth : ∀ wx, Ph6 w F o o' h L w.heap.size kd th n off old val T R T R wx → Calls Try.prog 15 #[.pointer (some ⟨L.g, 0, none⟩), .int .i64 (t : Int)] wx (fun e w' => e = .returned (.pointer (some ⟨L.tb t, 0, none⟩)) ∧ wx = w') := fun wx hp => hp.quiet fun F' hd => thread_in hd ht
  have cA : ∀ wx, Ph6 w F o o' h L w.heap.size kd th n off old val T R T R wx → Calls Try.prog 85 #[.pointer (some ⟨L.tb t, 0, none⟩), .int .u64 (off : Int)] wx (PhPost w F o o' h L w.heap.size kd th n off old val T (mayP R t (R.isB off)) T R (.int .u64 ((loadV R off : Nat) : Int))) := fun wx hp => hp.dev hn fun F' hd => load_any hd ht ho
  have cB : ∀ wx, Ph6 w F o o' h L w.heap.size kd th n off old val T (mayP R t (R.isB off)) T R wx → Calls Try.prog 86 #[.pointer (some ⟨h, 0, none⟩), .int .i64 (t : Int), .int .u64 (off : Int)] wx (PhPost w F o o' h L w.heap.size kd th n off old val T (mayP R t (R.isB off)) T (mayP R t (R.isB off)) (.int .u64 ((loadV R off : Nat) : Int))) := fun wx hp => hp.ref hn fun F' hd => rload_any hd ht ho
  have hfin : ∀ wx, Ph6 w F o o' h L w.heap.size kd th n off old val T (mayP R t (R.isB off)) T (mayP R t (R.isB off)) wx → post (.returned (.bool true)) wx := fun wx hp => by rw [← hpost]; exact hp.fin rfl rfl (by omega) (by omega) hT
  obtain ⟨_, c0, c1, c2, c3, c4, c5, _⟩ := hP.cells (v := .bool true) rfl
  generalize loadV R off = lv at *
  replace cA := Lib.hid cA
  replace cB := Lib.hid cB
  replace hth := Lib.hid hth
  replace hfin := Lib.hid hfin
  replace hmt := Lib.hid hmt
  replace hmk := Lib.hid hmk
  clear h1 h2 hok hpost hT hn
  go_enter Try.func43, Try.ntmps43
  go_wp2_with fail
  refine (hmt.out _).mono ?_
  rintro e w' ⟨rfl, rfl⟩
  go_wp2_with fail
  refine (hth.out _ hP).mono ?_
  rintro e w' ⟨rfl, rfl⟩
  go_wp2_with fail
  refine (hmk.out _).mono ?_
  rintro e w' ⟨rfl, rfl⟩
  go_wp2_with fail
  go_region_held3 (fun w' => w'.cell? ⟨w.heap.size, 2, none⟩ = some (.int .u64 (off : Int))) (go_keep)
    (first | (go_at_call 85; refine (cA.out _ ?_).mono ?_; (first | exact hP | exact hP.drew); rintro e w1 ⟨rfl, c0, c1, c2, c3, c4, c5, hP1⟩) | (go_at_call 86; refine (cB.out _ ?_).mono ?_; (first | exact hP1 | exact hP1.drew); rintro e w2 ⟨rfl, c0, c1, c2, c3, c4, c5, hP2⟩))
  all_goals
    have hf := Lib.hid (hfin.out _ (by first | exact hP2 | exact hP2.drew))
    go_wp2_with fail
    first | exact hf.out | (go_ret; exact hf.out)
set_option maxHeartbeats 4000000 in
set_option maxRecDepth 100000 in
theorem do_1 (h1 : DevSt w F o L T R) (h2 : RefSt w F o' h T R) (hn : o ≠ o') (hT : T + 2 ≤ 100000) (kd th n : Int) (t off old val : Nat) (ht : t < 8) (ho : off < 18446744073709551616) (hd : old < 18446744073709551616) (hv : val < 18446744073709551616) (hni : n ≤ 9223372036854775807)
    (hmt : modC th 8 (t : Int)) (hmk : modC kd 7 1) :
    Calls Try.prog 43 #[.pointer (some ⟨L.g, 0, none⟩), .pointer (some ⟨h, 0, none⟩), .agg #[.int .i64 kd, .int .i64 th, .int .u64 (off : Int), .int .u64 (old : Int), .int .u64 (val : Int), .int .i64 n]] w (DoPost w F o o' h (T + 2) L (storeP R t off val)) := by
  have _u := And.intro ho (And.intro hd (And.intro hv hni))
  generalize hpost : DoPost w F o o' h (T + 2) L (storeP R t off val) = post
  have hok := h1.ok
  have hP := Ph6.start h1 h2 kd th n off old val
  have hth : ∀ wx, Ph6 w F o o' h L w.heap.size kd th n off old val T R T R wx → Calls Try.prog 15 #[.pointer (some ⟨L.g, 0, none⟩), .int .i64 (t : Int)] wx (fun e w' => e = .returned (.pointer (some ⟨L.tb t, 0, none⟩)) ∧ wx = w') := fun wx hp => hp.quiet fun F' hd => thread_in hd ht
  have cA : ∀ wx, Ph6 w F o o' h L w.heap.size kd th n off old val T R T R wx → Calls Try.prog 16 #[.pointer (some ⟨L.tb t, 0, none⟩), .int .u64 (off : Int), .int .u64 (val : Int)] wx (PhPost w F o o' h L w.heap.size kd th n off old val (T + 2) (storeP R t off val) T R (.tuple #[])) := fun wx hp => hp.dev hn fun F' hd => store_any hd hT ht ho hv
  have cB : ∀ wx, Ph6 w F o o' h L w.heap.size kd th n off old val (T + 2) (storeP R t off val) T R wx → Calls Try.prog 19 #[.pointer (some ⟨h, 0, none⟩), .int .i64 (t : Int), .int .u64 (off : Int), .int .u64 (val : Int)] wx (PhPost w F o o' h L w.heap.size kd th n off old val (T + 2) (storeP R t off val) (T + 2) (storeP R t off val) (.tuple #[])) := fun wx hp => hp.ref hn fun F' hd => rstore_any hd hT ht ho hv
  have hfin : ∀ wx, Ph6 w F o o' h L w.heap.size kd th n off old val (T + 2) (storeP R t off val) (T + 2) (storeP R t off val) wx → post (.returned (.bool true)) wx := fun wx hp => by rw [← hpost]; exact hp.fin rfl rfl (by omega) (by omega) hT
  obtain ⟨_, c0, c1, c2, c3, c4, c5, _⟩ := hP.cells (v := .bool true) rfl
  replace cA := Lib.hid cA
  replace cB := Lib.hid cB
  replace hth := Lib.hid hth
  replace hfin := Lib.hid hfin
  replace hmt := Lib.hid hmt
  replace hmk := Lib.hid hmk
  clear h1 h2 hok hpost hT hn
  go_enter Try.func43, Try.ntmps43
  go_wp2_with fail
  refine (hmt.out _).mono ?_
  rintro e w' ⟨rfl, rfl⟩
  go_wp2_with fail
  refine (hth.out _ hP).mono ?_
  rintro e w' ⟨rfl, rfl⟩
  go_wp2_with fail
  refine (hmk.out _).mono ?_
  rintro e w' ⟨rfl, rfl⟩
  go_wp2_with fail
  refine (cA.out _ hP).mono ?_
  rintro e w1 ⟨rfl, c0, c1, c2, c3, c4, c5, hP1⟩
  clear hP
  go_wp2_with fail
  refine (cB.out _ hP1).mono ?_
  rintro e w2 ⟨rfl, c0, c1, c2, c3, c4, c5, hP2⟩
  have hf := Lib.hid (hfin.out _ hP2)
  clear hP1 hP2
  go_wp2_with fail
  first | exact hf.out | (go_ret; exact hf.out)
set_option maxHeartbeats 4000000 in
set_option maxRecDepth 100000 in
theorem do_2 (h1 : DevSt w F o L T R) (h2 : RefSt w F o' h T R) (hn : o ≠ o') (hT : T + 2 ≤ 100000) (kd th n : Int) (t off old val : Nat) (ht : t < 8) (ho : off < 18446744073709551616) (hd : old < 18446744073709551616) (hv : val < 18446744073709551616) (hni : n ≤ 9223372036854775807)
    (hmt : modC th 8 (t : Int)) (hmk : modC kd 7 2) :
    Calls Try.prog 43 #[.pointer (some ⟨L.g, 0, none⟩), .pointer (some ⟨h, 0, none⟩), .agg #[.int .i64 kd, .int .i64 th, .int .u64 (off : Int), .int .u64 (old : Int), .int .u64 (val : Int), .int .i64 n]] w (DoPost w F o o' h (T + 2) L (casP R t off old val)) := by
  have _u := And.intro ho (And.intro hd (And.intro hv hni))
  generalize hpost : DoPost w F o o' h (T + 2) L (casP R t off old val) = post
  have hok := h1.ok
  have hP := Ph6.start h1 h2 kd th n off old val
  have hth : ∀ wx, Ph6 w F o o' h L w.heap.size kd th n off old val T R T R wx → Calls Try.prog 15 #[.pointer (some ⟨L.g, 0, none⟩), .int .i64 (t : Int)] wx (fun e w' => e = .returned (.pointer (some ⟨L.tb t, 0, none⟩)) ∧ wx = w') := fun wx hp => hp.quiet fun F' hd => thread_in hd ht
  have cA : ∀ wx, Ph6 w F o o' h L w.heap.size kd th n off old val T R T R wx → Calls Try.prog 87 #[.pointer (some ⟨L.tb t, 0, none⟩), .int .u64 (off : Int), .int .u64 (old : Int), .int .u64 (val : Int)] wx (PhPost w F o o' h L w.heap.size kd th n off old val (T + 2) (casP R t off old val) T R (.bool (casB R off old))) := fun wx hp => hp.dev hn fun F' hd => cas_any hd hT ht ho hv
  have cB : ∀ wx, Ph6 w F o o' h L w.heap.size kd th n off old val (T + 2) (casP R t off old val) T R wx → Calls Try.prog 88 #[.pointer (some ⟨h, 0, none⟩), .int .i64 (t : Int), .int .u64 (off : Int), .int .u64 (old : Int), .int .u64 (val : Int)] wx (PhPost w F o o' h L w.heap.size kd th n off old val (T + 2) (casP R t off old val) (T + 2) (casP R t off old val) (.bool (casB R off old))) := fun wx hp => hp.ref hn fun F' hd => rcas_any hd hT ht ho hv
  have hfin : ∀ wx, Ph6 w F o o' h L w.heap.size kd th n off old val (T + 2) (casP R t off old val) (T + 2) (casP R t off old val) wx → post (.returned (.bool true)) wx := fun wx hp => by rw [← hpost]; exact hp.fin rfl rfl (by omega) (by omega) hT
  obtain ⟨_, c0, c1, c2, c3, c4, c5, _⟩ := hP.cells (v := .bool true) rfl
  generalize casB R off old = lv at *
  replace cA := Lib.hid cA
  replace cB := Lib.hid cB
  replace hth := Lib.hid hth
  replace hfin := Lib.hid hfin
  replace hmt := Lib.hid hmt
  replace hmk := Lib.hid hmk
  clear h1 h2 hok hpost hT hn
  go_enter Try.func43, Try.ntmps43
  go_wp2_with fail
  refine (hmt.out _).mono ?_
  rintro e w' ⟨rfl, rfl⟩
  go_wp2_with fail
  refine (hth.out _ hP).mono ?_
  rintro e w' ⟨rfl, rfl⟩
  go_wp2_with fail
  refine (hmk.out _).mono ?_
  rintro e w' ⟨rfl, rfl⟩
  go_wp2_with fail
  go_region_held3 (fun w' => w'.cell? ⟨w.heap.size, 2, none⟩ = some (.int .u64 (off : Int)) ∧ w'.cell? ⟨w.heap.size, 3, none⟩ = some (.int .u64 (old : Int)) ∧ w'.cell? ⟨w.heap.size, 4, none⟩ = some (.int .u64 (val : Int))) (go_keep)
    (first | (go_at_call 87; refine (cA.out _ ?_).mono ?_; (first | exact hP | exact hP.drew); rintro e w1 ⟨rfl, c0, c1, c2, c3, c4, c5, hP1⟩) | (go_at_call 88; refine (cB.out _ ?_).mono ?_; (first | exact hP1 | exact hP1.drew); rintro e w2 ⟨rfl, c0, c1, c2, c3, c4, c5, hP2⟩))
  all_goals
    have hf := Lib.hid (hfin.out _ (by first | exact hP2 | exact hP2.drew))
    go_wp2_with fail
    first | exact hf.out | (go_ret; exact hf.out)
set_option maxHeartbeats 4000000 in
set_option maxRecDepth 100000 in
theorem do_3 (h1 : DevSt w F o L T R) (h2 : RefSt w F o' h T R) (hn : o ≠ o') (hT : T + 2 ≤ 100000) (kd th n : Int) (t off old val : Nat) (ht : t < 8) (ho : off < 18446744073709551616) (hd : old < 18446744073709551616) (hv : val < 18446744073709551616) (hni : n ≤ 9223372036854775807)
    (hmt : modC th 8 (t : Int)) (hmk : modC kd 7 3) :
    Calls Try.prog 43 #[.pointer (some ⟨L.g, 0, none⟩), .pointer (some ⟨h, 0, none⟩), .agg #[.int .i64 kd, .int .i64 th, .int .u64 (off : Int), .int .u64 (old : Int), .int .u64 (val : Int), .int .i64 n]] w (DoPost w F o o' h (T + 2) L (flushP R t off)) := by
  have _u := And.intro ho (And.intro hd (And.intro hv hni))
  generalize hpost : DoPost w F o o' h (T + 2) L (flushP R t off) = post
  have hok := h1.ok
  have hP := Ph6.start h1 h2 kd th n off old val
  have hth : ∀ wx, Ph6 w F o o' h L w.heap.size kd th n off old val T R T R wx → Calls Try.prog 15 #[.pointer (some ⟨L.g, 0, none⟩), .int .i64 (t : Int)] wx (fun e w' => e = .returned (.pointer (some ⟨L.tb t, 0, none⟩)) ∧ wx = w') := fun wx hp => hp.quiet fun F' hd => thread_in hd ht
  have cA : ∀ wx, Ph6 w F o o' h L w.heap.size kd th n off old val T R T R wx → Calls Try.prog 89 #[.pointer (some ⟨L.tb t, 0, none⟩), .int .u64 (off : Int)] wx (PhPost w F o o' h L w.heap.size kd th n off old val (T + 2) (flushP R t off) T R (.tuple #[])) := fun wx hp => hp.dev hn fun F' hd => flush_any hd hT ht ho
  have cB : ∀ wx, Ph6 w F o o' h L w.heap.size kd th n off old val (T + 2) (flushP R t off) T R wx → Calls Try.prog 90 #[.pointer (some ⟨h, 0, none⟩), .int .i64 (t : Int), .int .u64 (off : Int)] wx (PhPost w F o o' h L w.heap.size kd th n off old val (T + 2) (flushP R t off) (T + 2) (flushP R t off) (.tuple #[])) := fun wx hp => hp.ref hn fun F' hd => rflush_any hd hT ht ho
  have hfin : ∀ wx, Ph6 w F o o' h L w.heap.size kd th n off old val (T + 2) (flushP R t off) (T + 2) (flushP R t off) wx → post (.returned (.bool true)) wx := fun wx hp => by rw [← hpost]; exact hp.fin rfl rfl (by omega) (by omega) hT
  obtain ⟨_, c0, c1, c2, c3, c4, c5, _⟩ := hP.cells (v := .bool true) rfl
  replace cA := Lib.hid cA
  replace cB := Lib.hid cB
  replace hth := Lib.hid hth
  replace hfin := Lib.hid hfin
  replace hmt := Lib.hid hmt
  replace hmk := Lib.hid hmk
  clear h1 h2 hok hpost hT hn
  go_enter Try.func43, Try.ntmps43
  go_wp2_with fail
  refine (hmt.out _).mono ?_
  rintro e w' ⟨rfl, rfl⟩
  go_wp2_with fail
  refine (hth.out _ hP).mono ?_
  rintro e w' ⟨rfl, rfl⟩
  go_wp2_with fail
  refine (hmk.out _).mono ?_
  rintro e w' ⟨rfl, rfl⟩
  go_wp2_with fail
  refine (cA.out _ hP).mono ?_
  rintro e w1 ⟨rfl, c0, c1, c2, c3, c4, c5, hP1⟩
  clear hP
  go_wp2_with fail
  refine (cB.out _ hP1).mono ?_
  rintro e w2 ⟨rfl, c0, c1, c2, c3, c4, c5, hP2⟩
  have hf := Lib.hid (hfin.out _ hP2)
  clear hP1 hP2
  go_wp2_with fail
  first | exact hf.out | (go_ret; exact hf.out)
set_option maxHeartbeats 4000000 in
set_option maxRecDepth 100000 in
theorem do_4 (h1 : DevSt w F o L T R) (h2 : RefSt w F o' h T R) (hn : o ≠ o') (hT : T + 2 ≤ 100000) (kd th n : Int) (t off old val : Nat) (ht : t < 8) (ho : off < 18446744073709551616) (hd : old < 18446744073709551616) (hv : val < 18446744073709551616) (hni : n ≤ 9223372036854775807)
    (hmt : modC th 8 (t : Int)) (hmk : modC kd 7 4) :
    Calls Try.prog 43 #[.pointer (some ⟨L.g, 0, none⟩), .pointer (some ⟨h, 0, none⟩), .agg #[.int .i64 kd, .int .i64 th, .int .u64 (off : Int), .int .u64 (old : Int), .int .u64 (val : Int), .int .i64 n]] w (DoPost w F o o' h (T + 2) L (fenceP R t)) := by
  have _u := And.intro ho (And.intro hd (And.intro hv hni))
  generalize hpost : DoPost w F o o' h (T + 2) L (fenceP R t) = post
  have hok := h1.ok
  have hP := Ph6.start h1 h2 kd th n off old val
  have hth : ∀ wx, Ph6 w F o o' h L w.heap.size kd th n off old val T R T R wx → Calls Try.prog 15 #[.pointer (some ⟨L.g, 0, none⟩), .int .i64 (t : Int)] wx (fun e w' => e = .returned (.pointer (some ⟨L.tb t, 0, none⟩)) ∧ wx = w') := fun wx hp => hp.quiet fun F' hd => thread_in hd ht
  have cA : ∀ wx, Ph6 w F o o' h L w.heap.size kd th n off old val T R T R wx → Calls Try.prog 91 #[.pointer (some ⟨L.tb t, 0, none⟩)] wx (PhPost w F o o' h L w.heap.size kd th n off old val (T + 1) (fenceP R t) T R (.tuple #[])) := fun wx hp => hp.dev hn fun F' hd => fence_any hd (by omega) ht
  have cB : ∀ wx, Ph6 w F o o' h L w.heap.size kd th n off old val (T + 1) (fenceP R t) T R wx → Calls Try.prog 92 #[.pointer (some ⟨h, 0, none⟩), .int .i64 (t : Int)] wx (PhPost w F o o' h L w.heap.size kd th n off old val (T + 1) (fenceP R t) (T + 1) (fenceP R t) (.tuple #[])) := fun wx hp => hp.ref hn fun F' hd => rfence_any hd (by omega) ht
  have hfin : ∀ wx, Ph6 w F o o' h L w.heap.size kd th n off old val (T + 1) (fenceP R t) (T + 1) (fenceP R t) wx → post (.returned (.bool true)) wx := fun wx hp => by rw [← hpost]; exact hp.fin rfl rfl (by omega) (by omega) hT
  obtain ⟨_, c0, c1, c2, c3, c4, c5, _⟩ := hP.cells (v := .bool true) rfl
  replace cA := Lib.hid cA
  replace cB := Lib.hid cB
  replace hth := Lib.hid hth
  replace hfin := Lib.hid hfin
  replace hmt := Lib.hid hmt
  replace hmk := Lib.hid hmk
  clear h1 h2 hok hpost hT hn
  go_enter Try.func43, Try.ntmps43
  go_wp2_with fail
  refine (hmt.out _).mono ?_
  rintro e w' ⟨rfl, rfl⟩
  go_wp2_with fail
  refine (hth.out _ hP).mono ?_
  rintro e w' ⟨rfl, rfl⟩
  go_wp2_with fail
  refine (hmk.out _).mono ?_
  rintro e w' ⟨rfl, rfl⟩
  go_wp2_with fail
  refine (cA.out _ hP).mono ?_
  rintro e w1 ⟨rfl, c0, c1, c2, c3, c4, c5, hP1⟩
  clear hP
  go_wp2_with fail
  refine (cB.out _ hP1).mono ?_
  rintro e w2 ⟨rfl, c0, c1, c2, c3, c4, c5, hP2⟩
  have hf := Lib.hid (hfin.out _ hP2)
  clear hP1 hP2
  go_wp2_with fail
  first | exact hf.out | (go_ret; exact hf.out)
set_option maxHeartbeats 4000000 in
set_option maxRecDepth 100000 in
theorem do_5 (h1 : DevSt w F o L T R) (h2 : RefSt w F o' h T R) (hn : o ≠ o') (hT : T + 2 ≤ 100000) (kd th n : Int) (t off old val : Nat) (ht : t < 8) (ho : off < 18446744073709551616) (hd : old < 18446744073709551616) (hv : val < 18446744073709551616) (hni : n ≤ 9223372036854775807)
    (hmt : modC th 8 (t : Int)) (hmk : modC kd 7 5) (io : Int) (hio : wrap64 (off : Int) = io) :
    Calls Try.prog 43 #[.pointer (some ⟨L.g, 0, none⟩), .pointer (some ⟨h, 0, none⟩), .agg #[.int .i64 kd, .int .i64 th, .int .u64 (off : Int), .int .u64 (old : Int), .int .u64 (val : Int), .int .i64 n]] w (DoPost w F o o' h (T + 2) L (backP R io n)) := by
  have _u := And.intro ho (And.intro hd (And.intro hv hni))
  generalize hpost : DoPost w F o o' h (T + 2) L (backP R io n) = post
  have hok := h1.ok
  have hP := Ph6.start h1 h2 kd th n off old val
  have hth : ∀ wx, Ph6 w F o o' h L w.heap.size kd th n off old val T R T R wx → Calls Try.prog 15 #[.pointer (some ⟨L.g, 0, none⟩), .int .i64 (t : Int)] wx (fun e w' => e = .returned (.pointer (some ⟨L.tb t, 0, none⟩)) ∧ wx = w') := fun wx hp => hp.quiet fun F' hd => thread_in hd ht
  have cA : ∀ wx, Ph6 w F o o' h L w.heap.size kd th n off old val T R T R wx → Calls Try.prog 93 #[.pointer (some ⟨L.g, 0, none⟩), .int .i64 io, .int .i64 n] wx (PhPost w F o o' h L w.heap.size kd th n off old val T (backP R io n) T R (.bool (backB R io n))) := fun wx hp => hp.dev hn fun F' hd => back_any hd _ _
  have cB : ∀ wx, Ph6 w F o o' h L w.heap.size kd th n off old val T (backP R io n) T R wx → Calls Try.prog 94 #[.pointer (some ⟨h, 0, none⟩), .int .i64 io, .int .i64 n] wx (PhPost w F o o' h L w.heap.size kd th n off old val T (backP R io n) T (backP R io n) (.bool (backB R io n))) := fun wx hp => hp.ref hn fun F' hd => rback_any hd _ _
  have hfin : ∀ wx, Ph6 w F o o' h L w.heap.size kd th n off old val T (backP R io n) T (backP R io n) wx → post (.returned (.bool true)) wx := fun wx hp => by rw [← hpost]; exact hp.fin rfl rfl (by omega) (by omega) hT
  obtain ⟨_, c0, c1, c2, c3, c4, c5, _⟩ := hP.cells (v := .bool true) rfl
  generalize backB R io n = lv at *
  replace cA := Lib.hid cA
  replace cB := Lib.hid cB
  replace hth := Lib.hid hth
  replace hfin := Lib.hid hfin
  replace hmt := Lib.hid hmt
  replace hmk := Lib.hid hmk
  have hio2 : IntKind.i64.wrap (off : Int) = io := (IntWalk.i64_left _).trans hio
  clear h1 h2 hok hpost hT hn
  go_enter Try.func43, Try.ntmps43
  go_wp2_with fail
  refine (hmt.out _).mono ?_
  rintro e w' ⟨rfl, rfl⟩
  go_wp2_with fail
  refine (hth.out _ hP).mono ?_
  rintro e w' ⟨rfl, rfl⟩
  go_wp2_with fail
  refine (hmk.out _).mono ?_
  rintro e w' ⟨rfl, rfl⟩
  go_wp2_with fail
  go_region_held3 (fun w' => w'.cell? ⟨w.heap.size, 2, none⟩ = some (.int .u64 (off : Int)) ∧ w'.cell? ⟨w.heap.size, 5, none⟩ = some (.int .i64 n)) (go_keep)
    (first | (go_at_call 93; refine (cA.out _ ?_).mono ?_; (first | exact hP | exact hP.drew); rintro e w1 ⟨rfl, c0, c1, c2, c3, c4, c5, hP1⟩) | (go_at_call 94; refine (cB.out _ ?_).mono ?_; (first | exact hP1 | exact hP1.drew); rintro e w2 ⟨rfl, c0, c1, c2, c3, c4, c5, hP2⟩))
  all_goals
    have hf := Lib.hid (hfin.out _ (by first | exact hP2 | exact hP2.drew))
    go_wp2_with fail
    first | exact hf.out | (go_ret; exact hf.out)
set_option maxHeartbeats 4000000 in
set_option maxRecDepth 100000 in
theorem do_6 (h1 : DevSt w F o L T R) (h2 : RefSt w F o' h T R) (hn : o ≠ o') (hT : T + 2 ≤ 100000) (kd th n : Int) (t off old val : Nat) (ht : t < 8) (ho : off < 18446744073709551616) (hd : old < 18446744073709551616) (hv : val < 18446744073709551616) (hni : n ≤ 9223372036854775807)
    (hmt : modC th 8 (t : Int)) (hmk : modC kd 7 6) :
    Calls Try.prog 43 #[.pointer (some ⟨L.g, 0, none⟩), .pointer (some ⟨h, 0, none⟩), .agg #[.int .i64 kd, .int .i64 th, .int .u64 (off : Int), .int .u64 (old : Int), .int .u64 (val : Int), .int .i64 n]] w (DoPost w F o o' h (T + 2) L (armP R n)) := by
  have _u := And.intro ho (And.intro hd (And.intro hv hni))
  generalize hpost : DoPost w F o o' h (T + 2) L (armP R n) = post
  have hok := h1.ok
  have hP := Ph6.start h1 h2 kd th n off old val
  have hth : ∀ wx, Ph6 w F o o' h L w.heap.size kd th n off old val T R T R wx → Calls Try.prog 15 #[.pointer (some ⟨L.g, 0, none⟩), .int .i64 (t : Int)] wx (fun e w' => e = .returned (.pointer (some ⟨L.tb t, 0, none⟩)) ∧ wx = w') := fun wx hp => hp.quiet fun F' hd => thread_in hd ht
  have cA : ∀ wx, Ph6 w F o o' h L w.heap.size kd th n off old val T R T R wx → Calls Try.prog 95 #[.pointer (some ⟨L.g, 0, none⟩), .int .i64 n] wx (PhPost w F o o' h L w.heap.size kd th n off old val T (armP R n) T R (.tuple #[])) := fun wx hp => hp.dev hn fun F' hd => arm_any hd n hni
  have cB : ∀ wx, Ph6 w F o o' h L w.heap.size kd th n off old val T (armP R n) T R wx → Calls Try.prog 96 #[.pointer (some ⟨h, 0, none⟩), .int .i64 n] wx (PhPost w F o o' h L w.heap.size kd th n off old val T (armP R n) T (armP R n) (.tuple #[])) := fun wx hp => hp.ref hn fun F' hd => rarm_any hd n hni
  have hfin : ∀ wx, Ph6 w F o o' h L w.heap.size kd th n off old val T (armP R n) T (armP R n) wx → post (.returned (.bool true)) wx := fun wx hp => by rw [← hpost]; exact hp.fin rfl rfl (by omega) (by omega) hT
  obtain ⟨_, c0, c1, c2, c3, c4, c5, _⟩ := hP.cells (v := .bool true) rfl
  replace cA := Lib.hid cA
  replace cB := Lib.hid cB
  replace hth := Lib.hid hth
  replace hfin := Lib.hid hfin
  replace hmt := Lib.hid hmt
  replace hmk := Lib.hid hmk
  clear h1 h2 hok hpost hT hn
  go_enter Try.func43, Try.ntmps43
  go_wp2_with fail
  refine (hmt.out _).mono ?_
  rintro e w' ⟨rfl, rfl⟩
  go_wp2_with fail
  refine (hth.out _ hP).mono ?_
  rintro e w' ⟨rfl, rfl⟩
  go_wp2_with fail
  refine (hmk.out _).mono ?_
  rintro e w' ⟨rfl, rfl⟩
  go_wp2_with fail
  refine (cA.out _ hP).mono ?_
  rintro e w1 ⟨rfl, c0, c1, c2, c3, c4, c5, hP1⟩
  clear hP
  go_wp2_with fail
  refine (cB.out _ hP1).mono ?_
  rintro e w2 ⟨rfl, c0, c1, c2, c3, c4, c5, hP2⟩
  have hf := Lib.hid (hfin.out _ hP2)
  clear hP1 hP2
  go_wp2_with fail
  first | exact hf.out | (go_ret; exact hf.out)

theorem mod_lit {a m : Int} {k : Nat} (hm : m = (k : Int)) (h1 : 1 ≤ k) (h2 : k ≤ 1000) (ha : i64B a) {v : Int} (hv : a % m = v) : modC a m v := fun wx => by
  subst hm hv
  exact mod_any wx a k h1 h2 ha
theorem do_any (h1 : DevSt w F o L T R) (h2 : RefSt w F o' h T R) (hn : o ≠ o') (hT : T + 2 ≤ 100000) (x : Evt) (hx : x.Fit) :
    Calls Try.prog 43 #[.pointer (some ⟨L.g, 0, none⟩), .pointer (some ⟨h, 0, none⟩), .agg #[.int .i64 x.kind, .int .i64 x.thr, .int .u64 (x.off : Int), .int .u64 (x.old : Int), .int .u64 (x.val : Int), .int .i64 x.n]] w (DoPost w F o o' h (T + 2) L (doP R x)) := by
  have hmt : modC x.thr 8 ((x.t : Nat) : Int) := mod_lit (k := 8) rfl (by omega) (by omega) hx.t x.t_int.symm
  have hmk : ∀ c, x.kind % 7 = c → modC x.kind 7 c := fun c hc => mod_lit (k := 7) rfl (by omega) (by omega) hx.k hc
  have h07 : x.kind % 7 = 0 ∨ x.kind % 7 = 1 ∨ x.kind % 7 = 2 ∨ x.kind % 7 = 3 ∨ x.kind % 7 = 4 ∨ x.kind % 7 = 5 ∨ x.kind % 7 = 6 := by omega
  have hni := hx.n.2
  rcases h07 with h7 | h7 | h7 | h7 | h7 | h7 | h7
  · rw [show doP R x = mayP R x.t (R.isB x.off) from by simp [doP, h7]]; exact do_0 h1 h2 hn hT x.kind x.thr x.n x.t x.off x.old x.val x.t_lt hx.o hx.d hx.v hni hmt (hmk _ h7)
  · rw [show doP R x = storeP R x.t x.off x.val from by simp [doP, h7]]; exact do_1 h1 h2 hn hT x.kind x.thr x.n x.t x.off x.old x.val x.t_lt hx.o hx.d hx.v hni hmt (hmk _ h7)
  · rw [show doP R x = casP R x.t x.off x.old x.val from by simp [doP, h7]]; exact do_2 h1 h2 hn hT x.kind x.thr x.n x.t x.off x.old x.val x.t_lt hx.o hx.d hx.v hni hmt (hmk _ h7)
  · rw [show doP R x = flushP R x.t x.off from by simp [doP, h7]]; exact do_3 h1 h2 hn hT x.kind x.thr x.n x.t x.off x.old x.val x.t_lt hx.o hx.d hx.v hni hmt (hmk _ h7)
  · rw [show doP R x = fenceP R x.t from by simp [doP, h7]]; exact do_4 h1 h2 hn hT x.kind x.thr x.n x.t x.off x.old x.val x.t_lt hx.o hx.d hx.v hni hmt (hmk _ h7)
  · rw [show doP R x = backP R (wrap64 (x.off : Int)) x.n from by simp [doP, Evt.io, h7]]; exact do_5 h1 h2 hn hT x.kind x.thr x.n x.t x.off x.old x.val x.t_lt hx.o hx.d hx.v hni hmt (hmk _ h7) _ rfl
  · rw [show doP R x = armP R x.n from by simp [doP, h7]]; exact do_6 h1 h2 hn hT x.kind x.thr x.n x.t x.off x.old x.val x.t_lt hx.o hx.d hx.v hni hmt (hmk _ h7)
end Go.Proofs.Ytikjpklbbjmioaa
