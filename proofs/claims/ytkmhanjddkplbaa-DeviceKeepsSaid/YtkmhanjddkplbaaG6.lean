/- The law's Do on two devices whose states may differ: what it answers is not said. -/
import Derived.Test.YtkmhanjddkplbaaG2
namespace Go.Proofs.Ytkmhanjddkplbaa
open Go.RowKit Go.Maps
variable {w : World} {F : Own} {o o' h Ta Tb : Nat} {Ra Rb : Dv} {L : Lay}

def DpPost (w : World) (F : Own) (o o' h T1 T2 : Nat) (L : Lay) (R1 R2 : Dv) (e : Ending) (w' : World) : Prop :=
  ∃ b F', e = .returned (.bool b) ∧ DevSt w' F' o L T1 R1 ∧ RefSt w' F' o' h T2 R2 ∧ Dst2 w F o o' w' F'
theorem Ph6.start2 (h1 : DevSt w F o L Ta Ra) (h2 : RefSt w F o' h Tb Rb) (kd th n : Int) (off old val : Nat) :
    Ph6 w F o o' h L w.heap.size kd th n off old val Ta Ra Tb Rb (w.alloc (.cells #[.int .i64 kd, .int .i64 th, .int .u64 (off : Int), .int .u64 (old : Int), .int .u64 (val : Int), .int .i64 n] 48)) := by
  have hs := (Only.refl (fun k => Mine F o k ∨ Mine F o' k) w).alloc (.cells #[.int .i64 kd, .int .i64 th, .int .u64 (off : Int), .int .u64 (old : Int), .int .u64 (val : Int), .int .i64 n] 48)
  refine ⟨F.trim w, h1.trim.alloc _, ?_, ⟨F.trim_ext w, hs⟩, Has.new _ _ _, F.trim_new w (Nat.le_refl _)⟩
  exact (h2.kept (Only.refl (fun _ => False) _) (F.trim_ext w) (fun _ _ s => s.elim)).alloc _
theorem Ph6.fin2 {b T1 T2 T1' T2' : Nat} {R1 R2 : Dv} {kd th n : Int} {off old val : Nat} {wx : World} (hp : Ph6 w F o o' h L b kd th n off old val T1 R1 T2 R2 wx) (ht1 : T1 ≤ T1') (ht2 : T2 ≤ T2') (h1' : T1' ≤ 100000) (h2' : T2' ≤ 100000) (v : Bool) : DpPost w F o o' h T1' T2' L R1 R2 (.returned (.bool v)) wx := by
  obtain ⟨F', h1, h2, h3, h4, h5⟩ := hp.ex
  exact ⟨v, F', rfl, h1.up ht1 h1', h2.up ht2 h2', h3⟩
set_option maxHeartbeats 4000000 in
set_option maxRecDepth 100000 in
theorem dp_0 (h1 : DevSt w F o L Ta Ra) (h2 : RefSt w F o' h Tb Rb) (hn : o ≠ o') (hTa : Ta + 2 ≤ 100000) (hTb : Tb + 2 ≤ 100000) (kd th n : Int) (t off old val : Nat) (ht : t < 8) (ho : off < 18446744073709551616) (hd : old < 18446744073709551616) (hv : val < 18446744073709551616) (hni : n ≤ 9223372036854775807)
    (hmt : modC th 8 (t : Int)) (hmk : modC kd 7 0) :
    Calls Try.prog 25 #[.pointer (some ⟨L.g, 0, none⟩), .pointer (some ⟨h, 0, none⟩), .agg #[.int .i64 kd, .int .i64 th, .int .u64 (off : Int), .int .u64 (old : Int), .int .u64 (val : Int), .int .i64 n]] w (DpPost w F o o' h (Ta + 2) (Tb + 2) L (mayP Ra t (Ra.isB off)) (mayP Rb t (Rb.isB off))) := by
  have _u := And.intro ho (And.intro hd (And.intro hv hni))
  generalize hpost : DpPost w F o o' h (Ta + 2) (Tb + 2) L (mayP Ra t (Ra.isB off)) (mayP Rb t (Rb.isB off)) = post
  have hP := Ph6.start2 h1 h2 kd th n off old val
  have hth : ∀ wx, Ph6 w F o o' h L w.heap.size kd th n off old val Ta Ra Tb Rb wx → Calls Try.prog 17 #[.pointer (some ⟨L.g, 0, none⟩), .int .i64 (t : Int)] wx (fun e w' => e = .returned (.pointer (some ⟨L.tb t, 0, none⟩)) ∧ wx = w') := fun wx hp => hp.quiet fun F' hd => thread_in hd ht
  have cA : ∀ wx, Ph6 w F o o' h L w.heap.size kd th n off old val Ta Ra Tb Rb wx → Calls Try.prog 49 #[.pointer (some ⟨L.tb t, 0, none⟩), .int .u64 (off : Int)] wx (PhPost w F o o' h L w.heap.size kd th n off old val Ta (mayP Ra t (Ra.isB off)) Tb Rb (.int .u64 ((loadV Ra off : Nat) : Int))) := fun wx hp => hp.dev hn fun F' hd => load_any hd ht ho
  have cB : ∀ wx, Ph6 w F o o' h L w.heap.size kd th n off old val Ta (mayP Ra t (Ra.isB off)) Tb Rb wx → Calls Try.prog 59 #[.pointer (some ⟨h, 0, none⟩), .int .i64 (t : Int), .int .u64 (off : Int)] wx (PhPost w F o o' h L w.heap.size kd th n off old val Ta (mayP Ra t (Ra.isB off)) Tb (mayP Rb t (Rb.isB off)) (.int .u64 ((loadV Rb off : Nat) : Int))) := fun wx hp => hp.ref hn fun F' hd => rload_any hd ht ho
  have hfin : ∀ wx b, Ph6 w F o o' h L w.heap.size kd th n off old val Ta (mayP Ra t (Ra.isB off)) Tb (mayP Rb t (Rb.isB off)) wx → post (.returned (.bool b)) wx := fun wx b hp => by rw [← hpost]; exact hp.fin2 (by omega) (by omega) hTa hTb b
  obtain ⟨_, c0, c1, c2, c3, c4, c5, _⟩ := hP.cells (v := .bool true) rfl
  generalize loadV Ra off = lva at *
  generalize loadV Rb off = lvb at *
  replace cA := Lib.hid cA
  replace cB := Lib.hid cB
  replace hth := Lib.hid hth
  replace hfin := Lib.hid hfin
  replace hmt := Lib.hid hmt
  replace hmk := Lib.hid hmk
  clear h1 h2 hpost hTa hTb hn
  go_enter Try.func25, Try.ntmps25
  go_wp2_with fail
  refine (hmt.out _).mono ?_
  rintro e w' ⟨rfl, rfl⟩
  go_wp2_with fail
  refine (hth.out _ hP).mono ?_
  rintro e w' ⟨rfl, rfl⟩
  go_wp2_with fail
  refine (hmk.out _).mono ?_
  rintro e w' ⟨rfl, rfl⟩
  go_wp2_with fail
  go_region_held3 (fun w' => w'.cell? ⟨w.heap.size, 2, none⟩ = some (.int .u64 (off : Int))) (go_keep)
    (first | (go_at_call 49; refine (cA.out _ ?_).mono ?_; (first | exact hP | exact hP.drew); rintro e w1 ⟨rfl, c0, c1, c2, c3, c4, c5, hP1⟩) | (go_at_call 59; refine (cB.out _ ?_).mono ?_; (first | exact hP1 | exact hP1.drew); rintro e w2 ⟨rfl, c0, c1, c2, c3, c4, c5, hP2⟩))
  all_goals
    have hf := fun b => hfin.out _ b (by first | exact hP2 | exact hP2.drew)
    replace hf := Lib.hid hf
    go_wp2_with fail
    first | exact hf.out _ | (go_ret; exact hf.out _)
set_option maxHeartbeats 4000000 in
set_option maxRecDepth 100000 in
theorem dp_1 (h1 : DevSt w F o L Ta Ra) (h2 : RefSt w F o' h Tb Rb) (hn : o ≠ o') (hTa : Ta + 2 ≤ 100000) (hTb : Tb + 2 ≤ 100000) (kd th n : Int) (t off old val : Nat) (ht : t < 8) (ho : off < 18446744073709551616) (hd : old < 18446744073709551616) (hv : val < 18446744073709551616) (hni : n ≤ 9223372036854775807)
    (hmt : modC th 8 (t : Int)) (hmk : modC kd 7 1) :
    Calls Try.prog 25 #[.pointer (some ⟨L.g, 0, none⟩), .pointer (some ⟨h, 0, none⟩), .agg #[.int .i64 kd, .int .i64 th, .int .u64 (off : Int), .int .u64 (old : Int), .int .u64 (val : Int), .int .i64 n]] w (DpPost w F o o' h (Ta + 2) (Tb + 2) L (storeP Ra t off val) (storeP Rb t off val)) := by
  have _u := And.intro ho (And.intro hd (And.intro hv hni))
  generalize hpost : DpPost w F o o' h (Ta + 2) (Tb + 2) L (storeP Ra t off val) (storeP Rb t off val) = post
  have hP := Ph6.start2 h1 h2 kd th n off old val
  have hth : ∀ wx, Ph6 w F o o' h L w.heap.size kd th n off old val Ta Ra Tb Rb wx → Calls Try.prog 17 #[.pointer (some ⟨L.g, 0, none⟩), .int .i64 (t : Int)] wx (fun e w' => e = .returned (.pointer (some ⟨L.tb t, 0, none⟩)) ∧ wx = w') := fun wx hp => hp.quiet fun F' hd => thread_in hd ht
  have cA : ∀ wx, Ph6 w F o o' h L w.heap.size kd th n off old val Ta Ra Tb Rb wx → Calls Try.prog 36 #[.pointer (some ⟨L.tb t, 0, none⟩), .int .u64 (off : Int), .int .u64 (val : Int)] wx (PhPost w F o o' h L w.heap.size kd th n off old val (Ta + 2) (storeP Ra t off val) Tb Rb (.tuple #[])) := fun wx hp => hp.dev hn fun F' hd => store_any hd hTa ht ho hv
  have cB : ∀ wx, Ph6 w F o o' h L w.heap.size kd th n off old val (Ta + 2) (storeP Ra t off val) Tb Rb wx → Calls Try.prog 39 #[.pointer (some ⟨h, 0, none⟩), .int .i64 (t : Int), .int .u64 (off : Int), .int .u64 (val : Int)] wx (PhPost w F o o' h L w.heap.size kd th n off old val (Ta + 2) (storeP Ra t off val) (Tb + 2) (storeP Rb t off val) (.tuple #[])) := fun wx hp => hp.ref hn fun F' hd => rstore_any hd hTb ht ho hv
  have hfin : ∀ wx b, Ph6 w F o o' h L w.heap.size kd th n off old val (Ta + 2) (storeP Ra t off val) (Tb + 2) (storeP Rb t off val) wx → post (.returned (.bool b)) wx := fun wx b hp => by rw [← hpost]; exact hp.fin2 (by omega) (by omega) hTa hTb b
  obtain ⟨_, c0, c1, c2, c3, c4, c5, _⟩ := hP.cells (v := .bool true) rfl
  replace cA := Lib.hid cA
  replace cB := Lib.hid cB
  replace hth := Lib.hid hth
  replace hfin := Lib.hid hfin
  replace hmt := Lib.hid hmt
  replace hmk := Lib.hid hmk
  clear h1 h2 hpost hTa hTb hn
  go_enter Try.func25, Try.ntmps25
  go_wp2_with fail
  refine (hmt.out _).mono ?_
  rintro e w' ⟨rfl, rfl⟩
  go_wp2_with fail
  refine (hth.out _ hP).mono ?_
  rintro e w' ⟨rfl, rfl⟩
  go_wp2_with fail
  refine (hmk.out _).mono ?_
  rintro e w' ⟨rfl, rfl⟩
  go_wp2_with fail
  refine (cA.out _ hP).mono ?_
  rintro e w1 ⟨rfl, c0, c1, c2, c3, c4, c5, hP1⟩
  clear hP
  go_wp2_with fail
  refine (cB.out _ hP1).mono ?_
  rintro e w2 ⟨rfl, c0, c1, c2, c3, c4, c5, hP2⟩
  have hf := Lib.hid (hfin.out _ true hP2)
  clear hP1 hP2
  go_wp2_with fail
  first | exact hf.out | (go_ret; exact hf.out)
set_option maxHeartbeats 4000000 in
set_option maxRecDepth 100000 in
theorem dp_2 (h1 : DevSt w F o L Ta Ra) (h2 : RefSt w F o' h Tb Rb) (hn : o ≠ o') (hTa : Ta + 2 ≤ 100000) (hTb : Tb + 2 ≤ 100000) (kd th n : Int) (t off old val : Nat) (ht : t < 8) (ho : off < 18446744073709551616) (hd : old < 18446744073709551616) (hv : val < 18446744073709551616) (hni : n ≤ 9223372036854775807)
    (hmt : modC th 8 (t : Int)) (hmk : modC kd 7 2) :
    Calls Try.prog 25 #[.pointer (some ⟨L.g, 0, none⟩), .pointer (some ⟨h, 0, none⟩), .agg #[.int .i64 kd, .int .i64 th, .int .u64 (off : Int), .int .u64 (old : Int), .int .u64 (val : Int), .int .i64 n]] w (DpPost w F o o' h (Ta + 2) (Tb + 2) L (casP Ra t off old val) (casP Rb t off old val)) := by
  have _u := And.intro ho (And.intro hd (And.intro hv hni))
  generalize hpost : DpPost w F o o' h (Ta + 2) (Tb + 2) L (casP Ra t off old val) (casP Rb t off old val) = post
  have hP := Ph6.start2 h1 h2 kd th n off old val
  have hth : ∀ wx, Ph6 w F o o' h L w.heap.size kd th n off old val Ta Ra Tb Rb wx → Calls Try.prog 17 #[.pointer (some ⟨L.g, 0, none⟩), .int .i64 (t : Int)] wx (fun e w' => e = .returned (.pointer (some ⟨L.tb t, 0, none⟩)) ∧ wx = w') := fun wx hp => hp.quiet fun F' hd => thread_in hd ht
  have cA : ∀ wx, Ph6 w F o o' h L w.heap.size kd th n off old val Ta Ra Tb Rb wx → Calls Try.prog 50 #[.pointer (some ⟨L.tb t, 0, none⟩), .int .u64 (off : Int), .int .u64 (old : Int), .int .u64 (val : Int)] wx (PhPost w F o o' h L w.heap.size kd th n off old val (Ta + 2) (casP Ra t off old val) Tb Rb (.bool (casB Ra off old))) := fun wx hp => hp.dev hn fun F' hd => cas_any hd hTa ht ho hv
  have cB : ∀ wx, Ph6 w F o o' h L w.heap.size kd th n off old val (Ta + 2) (casP Ra t off old val) Tb Rb wx → Calls Try.prog 60 #[.pointer (some ⟨h, 0, none⟩), .int .i64 (t : Int), .int .u64 (off : Int), .int .u64 (old : Int), .int .u64 (val : Int)] wx (PhPost w F o o' h L w.heap.size kd th n off old val (Ta + 2) (casP Ra t off old val) (Tb + 2) (casP Rb t off old val) (.bool (casB Rb off old))) := fun wx hp => hp.ref hn fun F' hd => rcas_any hd hTb ht ho hv
  have hfin : ∀ wx b, Ph6 w F o o' h L w.heap.size kd th n off old val (Ta + 2) (casP Ra t off old val) (Tb + 2) (casP Rb t off old val) wx → post (.returned (.bool b)) wx := fun wx b hp => by rw [← hpost]; exact hp.fin2 (by omega) (by omega) hTa hTb b
  obtain ⟨_, c0, c1, c2, c3, c4, c5, _⟩ := hP.cells (v := .bool true) rfl
  generalize casB Ra off old = lva at *
  generalize casB Rb off old = lvb at *
  replace cA := Lib.hid cA
  replace cB := Lib.hid cB
  replace hth := Lib.hid hth
  replace hfin := Lib.hid hfin
  replace hmt := Lib.hid hmt
  replace hmk := Lib.hid hmk
  clear h1 h2 hpost hTa hTb hn
  go_enter Try.func25, Try.ntmps25
  go_wp2_with fail
  refine (hmt.out _).mono ?_
  rintro e w' ⟨rfl, rfl⟩
  go_wp2_with fail
  refine (hth.out _ hP).mono ?_
  rintro e w' ⟨rfl, rfl⟩
  go_wp2_with fail
  refine (hmk.out _).mono ?_
  rintro e w' ⟨rfl, rfl⟩
  go_wp2_with fail
  go_region_held3 (fun w' => w'.cell? ⟨w.heap.size, 2, none⟩ = some (.int .u64 (off : Int)) ∧ w'.cell? ⟨w.heap.size, 3, none⟩ = some (.int .u64 (old : Int)) ∧ w'.cell? ⟨w.heap.size, 4, none⟩ = some (.int .u64 (val : Int))) (go_keep)
    (first | (go_at_call 50; refine (cA.out _ ?_).mono ?_; (first | exact hP | exact hP.drew); rintro e w1 ⟨rfl, c0, c1, c2, c3, c4, c5, hP1⟩) | (go_at_call 60; refine (cB.out _ ?_).mono ?_; (first | exact hP1 | exact hP1.drew); rintro e w2 ⟨rfl, c0, c1, c2, c3, c4, c5, hP2⟩))
  all_goals
    have hf := fun b => hfin.out _ b (by first | exact hP2 | exact hP2.drew)
    replace hf := Lib.hid hf
    go_wp2_with fail
    first | exact hf.out _ | (go_ret; exact hf.out _)
set_option maxHeartbeats 4000000 in
set_option maxRecDepth 100000 in
theorem dp_3 (h1 : DevSt w F o L Ta Ra) (h2 : RefSt w F o' h Tb Rb) (hn : o ≠ o') (hTa : Ta + 2 ≤ 100000) (hTb : Tb + 2 ≤ 100000) (kd th n : Int) (t off old val : Nat) (ht : t < 8) (ho : off < 18446744073709551616) (hd : old < 18446744073709551616) (hv : val < 18446744073709551616) (hni : n ≤ 9223372036854775807)
    (hmt : modC th 8 (t : Int)) (hmk : modC kd 7 3) :
    Calls Try.prog 25 #[.pointer (some ⟨L.g, 0, none⟩), .pointer (some ⟨h, 0, none⟩), .agg #[.int .i64 kd, .int .i64 th, .int .u64 (off : Int), .int .u64 (old : Int), .int .u64 (val : Int), .int .i64 n]] w (DpPost w F o o' h (Ta + 2) (Tb + 2) L (flushP Ra t off) (flushP Rb t off)) := by
  have _u := And.intro ho (And.intro hd (And.intro hv hni))
  generalize hpost : DpPost w F o o' h (Ta + 2) (Tb + 2) L (flushP Ra t off) (flushP Rb t off) = post
  have hP := Ph6.start2 h1 h2 kd th n off old val
  have hth : ∀ wx, Ph6 w F o o' h L w.heap.size kd th n off old val Ta Ra Tb Rb wx → Calls Try.prog 17 #[.pointer (some ⟨L.g, 0, none⟩), .int .i64 (t : Int)] wx (fun e w' => e = .returned (.pointer (some ⟨L.tb t, 0, none⟩)) ∧ wx = w') := fun wx hp => hp.quiet fun F' hd => thread_in hd ht
  have cA : ∀ wx, Ph6 w F o o' h L w.heap.size kd th n off old val Ta Ra Tb Rb wx → Calls Try.prog 37 #[.pointer (some ⟨L.tb t, 0, none⟩), .int .u64 (off : Int)] wx (PhPost w F o o' h L w.heap.size kd th n off old val (Ta + 2) (flushP Ra t off) Tb Rb (.tuple #[])) := fun wx hp => hp.dev hn fun F' hd => flush_any hd hTa ht ho
  have cB : ∀ wx, Ph6 w F o o' h L w.heap.size kd th n off old val (Ta + 2) (flushP Ra t off) Tb Rb wx → Calls Try.prog 40 #[.pointer (some ⟨h, 0, none⟩), .int .i64 (t : Int), .int .u64 (off : Int)] wx (PhPost w F o o' h L w.heap.size kd th n off old val (Ta + 2) (flushP Ra t off) (Tb + 2) (flushP Rb t off) (.tuple #[])) := fun wx hp => hp.ref hn fun F' hd => rflush_any hd hTb ht ho
  have hfin : ∀ wx b, Ph6 w F o o' h L w.heap.size kd th n off old val (Ta + 2) (flushP Ra t off) (Tb + 2) (flushP Rb t off) wx → post (.returned (.bool b)) wx := fun wx b hp => by rw [← hpost]; exact hp.fin2 (by omega) (by omega) hTa hTb b
  obtain ⟨_, c0, c1, c2, c3, c4, c5, _⟩ := hP.cells (v := .bool true) rfl
  replace cA := Lib.hid cA
  replace cB := Lib.hid cB
  replace hth := Lib.hid hth
  replace hfin := Lib.hid hfin
  replace hmt := Lib.hid hmt
  replace hmk := Lib.hid hmk
  clear h1 h2 hpost hTa hTb hn
  go_enter Try.func25, Try.ntmps25
  go_wp2_with fail
  refine (hmt.out _).mono ?_
  rintro e w' ⟨rfl, rfl⟩
  go_wp2_with fail
  refine (hth.out _ hP).mono ?_
  rintro e w' ⟨rfl, rfl⟩
  go_wp2_with fail
  refine (hmk.out _).mono ?_
  rintro e w' ⟨rfl, rfl⟩
  go_wp2_with fail
  refine (cA.out _ hP).mono ?_
  rintro e w1 ⟨rfl, c0, c1, c2, c3, c4, c5, hP1⟩
  clear hP
  go_wp2_with fail
  refine (cB.out _ hP1).mono ?_
  rintro e w2 ⟨rfl, c0, c1, c2, c3, c4, c5, hP2⟩
  have hf := Lib.hid (hfin.out _ true hP2)
  clear hP1 hP2
  go_wp2_with fail
  first | exact hf.out | (go_ret; exact hf.out)
set_option maxHeartbeats 4000000 in
set_option maxRecDepth 100000 in
theorem dp_4 (h1 : DevSt w F o L Ta Ra) (h2 : RefSt w F o' h Tb Rb) (hn : o ≠ o') (hTa : Ta + 2 ≤ 100000) (hTb : Tb + 2 ≤ 100000) (kd th n : Int) (t off old val : Nat) (ht : t < 8) (ho : off < 18446744073709551616) (hd : old < 18446744073709551616) (hv : val < 18446744073709551616) (hni : n ≤ 9223372036854775807)
    (hmt : modC th 8 (t : Int)) (hmk : modC kd 7 4) :
    Calls Try.prog 25 #[.pointer (some ⟨L.g, 0, none⟩), .pointer (some ⟨h, 0, none⟩), .agg #[.int .i64 kd, .int .i64 th, .int .u64 (off : Int), .int .u64 (old : Int), .int .u64 (val : Int), .int .i64 n]] w (DpPost w F o o' h (Ta + 2) (Tb + 2) L (fenceP Ra t) (fenceP Rb t)) := by
  have _u := And.intro ho (And.intro hd (And.intro hv hni))
  generalize hpost : DpPost w F o o' h (Ta + 2) (Tb + 2) L (fenceP Ra t) (fenceP Rb t) = post
  have hP := Ph6.start2 h1 h2 kd th n off old val
  have hth : ∀ wx, Ph6 w F o o' h L w.heap.size kd th n off old val Ta Ra Tb Rb wx → Calls Try.prog 17 #[.pointer (some ⟨L.g, 0, none⟩), .int .i64 (t : Int)] wx (fun e w' => e = .returned (.pointer (some ⟨L.tb t, 0, none⟩)) ∧ wx = w') := fun wx hp => hp.quiet fun F' hd => thread_in hd ht
  have cA : ∀ wx, Ph6 w F o o' h L w.heap.size kd th n off old val Ta Ra Tb Rb wx → Calls Try.prog 38 #[.pointer (some ⟨L.tb t, 0, none⟩)] wx (PhPost w F o o' h L w.heap.size kd th n off old val (Ta + 1) (fenceP Ra t) Tb Rb (.tuple #[])) := fun wx hp => hp.dev hn fun F' hd => fence_any hd (by omega) ht
  have cB : ∀ wx, Ph6 w F o o' h L w.heap.size kd th n off old val (Ta + 1) (fenceP Ra t) Tb Rb wx → Calls Try.prog 41 #[.pointer (some ⟨h, 0, none⟩), .int .i64 (t : Int)] wx (PhPost w F o o' h L w.heap.size kd th n off old val (Ta + 1) (fenceP Ra t) (Tb + 1) (fenceP Rb t) (.tuple #[])) := fun wx hp => hp.ref hn fun F' hd => rfence_any hd (by omega) ht
  have hfin : ∀ wx b, Ph6 w F o o' h L w.heap.size kd th n off old val (Ta + 1) (fenceP Ra t) (Tb + 1) (fenceP Rb t) wx → post (.returned (.bool b)) wx := fun wx b hp => by rw [← hpost]; exact hp.fin2 (by omega) (by omega) hTa hTb b
  obtain ⟨_, c0, c1, c2, c3, c4, c5, _⟩ := hP.cells (v := .bool true) rfl
  replace cA := Lib.hid cA
  replace cB := Lib.hid cB
  replace hth := Lib.hid hth
  replace hfin := Lib.hid hfin
  replace hmt := Lib.hid hmt
  replace hmk := Lib.hid hmk
  clear h1 h2 hpost hTa hTb hn
  go_enter Try.func25, Try.ntmps25
  go_wp2_with fail
  refine (hmt.out _).mono ?_
  rintro e w' ⟨rfl, rfl⟩
  go_wp2_with fail
  refine (hth.out _ hP).mono ?_
  rintro e w' ⟨rfl, rfl⟩
  go_wp2_with fail
  refine (hmk.out _).mono ?_
  rintro e w' ⟨rfl, rfl⟩
  go_wp2_with fail
  refine (cA.out _ hP).mono ?_
  rintro e w1 ⟨rfl, c0, c1, c2, c3, c4, c5, hP1⟩
  clear hP
  go_wp2_with fail
  refine (cB.out _ hP1).mono ?_
  rintro e w2 ⟨rfl, c0, c1, c2, c3, c4, c5, hP2⟩
  have hf := Lib.hid (hfin.out _ true hP2)
  clear hP1 hP2
  go_wp2_with fail
  first | exact hf.out | (go_ret; exact hf.out)
set_option maxHeartbeats 4000000 in
set_option maxRecDepth 100000 in
theorem dp_5 (h1 : DevSt w F o L Ta Ra) (h2 : RefSt w F o' h Tb Rb) (hn : o ≠ o') (hTa : Ta + 2 ≤ 100000) (hTb : Tb + 2 ≤ 100000) (kd th n : Int) (t off old val : Nat) (ht : t < 8) (ho : off < 18446744073709551616) (hd : old < 18446744073709551616) (hv : val < 18446744073709551616) (hni : n ≤ 9223372036854775807)
    (hmt : modC th 8 (t : Int)) (hmk : modC kd 7 5) (io : Int) (hio : wrap64 (off : Int) = io) :
    Calls Try.prog 25 #[.pointer (some ⟨L.g, 0, none⟩), .pointer (some ⟨h, 0, none⟩), .agg #[.int .i64 kd, .int .i64 th, .int .u64 (off : Int), .int .u64 (old : Int), .int .u64 (val : Int), .int .i64 n]] w (DpPost w F o o' h (Ta + 2) (Tb + 2) L (backP Ra io n) (backP Rb io n)) := by
  have _u := And.intro ho (And.intro hd (And.intro hv hni))
  generalize hpost : DpPost w F o o' h (Ta + 2) (Tb + 2) L (backP Ra io n) (backP Rb io n) = post
  have hP := Ph6.start2 h1 h2 kd th n off old val
  have hth : ∀ wx, Ph6 w F o o' h L w.heap.size kd th n off old val Ta Ra Tb Rb wx → Calls Try.prog 17 #[.pointer (some ⟨L.g, 0, none⟩), .int .i64 (t : Int)] wx (fun e w' => e = .returned (.pointer (some ⟨L.tb t, 0, none⟩)) ∧ wx = w') := fun wx hp => hp.quiet fun F' hd => thread_in hd ht
  have cA : ∀ wx, Ph6 w F o o' h L w.heap.size kd th n off old val Ta Ra Tb Rb wx → Calls Try.prog 43 #[.pointer (some ⟨L.g, 0, none⟩), .int .i64 io, .int .i64 n] wx (PhPost w F o o' h L w.heap.size kd th n off old val Ta (backP Ra io n) Tb Rb (.bool (backB Ra io n))) := fun wx hp => hp.dev hn fun F' hd => back_any hd _ _
  have cB : ∀ wx, Ph6 w F o o' h L w.heap.size kd th n off old val Ta (backP Ra io n) Tb Rb wx → Calls Try.prog 44 #[.pointer (some ⟨h, 0, none⟩), .int .i64 io, .int .i64 n] wx (PhPost w F o o' h L w.heap.size kd th n off old val Ta (backP Ra io n) Tb (backP Rb io n) (.bool (backB Rb io n))) := fun wx hp => hp.ref hn fun F' hd => rback_any hd _ _
  have hfin : ∀ wx b, Ph6 w F o o' h L w.heap.size kd th n off old val Ta (backP Ra io n) Tb (backP Rb io n) wx → post (.returned (.bool b)) wx := fun wx b hp => by rw [← hpost]; exact hp.fin2 (by omega) (by omega) hTa hTb b
  obtain ⟨_, c0, c1, c2, c3, c4, c5, _⟩ := hP.cells (v := .bool true) rfl
  generalize backB Ra io n = lva at *
  generalize backB Rb io n = lvb at *
  replace cA := Lib.hid cA
  replace cB := Lib.hid cB
  replace hth := Lib.hid hth
  replace hfin := Lib.hid hfin
  replace hmt := Lib.hid hmt
  replace hmk := Lib.hid hmk
  have hio2 : IntKind.i64.wrap (off : Int) = io := (IntWalk.i64_left _).trans hio
  clear h1 h2 hpost hTa hTb hn
  go_enter Try.func25, Try.ntmps25
  go_wp2_with fail
  refine (hmt.out _).mono ?_
  rintro e w' ⟨rfl, rfl⟩
  go_wp2_with fail
  refine (hth.out _ hP).mono ?_
  rintro e w' ⟨rfl, rfl⟩
  go_wp2_with fail
  refine (hmk.out _).mono ?_
  rintro e w' ⟨rfl, rfl⟩
  go_wp2_with fail
  go_region_held3 (fun w' => w'.cell? ⟨w.heap.size, 2, none⟩ = some (.int .u64 (off : Int)) ∧ w'.cell? ⟨w.heap.size, 5, none⟩ = some (.int .i64 n)) (go_keep)
    (first | (go_at_call 43; refine (cA.out _ ?_).mono ?_; (first | exact hP | exact hP.drew); rintro e w1 ⟨rfl, c0, c1, c2, c3, c4, c5, hP1⟩) | (go_at_call 44; refine (cB.out _ ?_).mono ?_; (first | exact hP1 | exact hP1.drew); rintro e w2 ⟨rfl, c0, c1, c2, c3, c4, c5, hP2⟩))
  all_goals
    have hf := fun b => hfin.out _ b (by first | exact hP2 | exact hP2.drew)
    replace hf := Lib.hid hf
    go_wp2_with fail
    first | exact hf.out _ | (go_ret; exact hf.out _)
set_option maxHeartbeats 4000000 in
set_option maxRecDepth 100000 in
theorem dp_6 (h1 : DevSt w F o L Ta Ra) (h2 : RefSt w F o' h Tb Rb) (hn : o ≠ o') (hTa : Ta + 2 ≤ 100000) (hTb : Tb + 2 ≤ 100000) (kd th n : Int) (t off old val : Nat) (ht : t < 8) (ho : off < 18446744073709551616) (hd : old < 18446744073709551616) (hv : val < 18446744073709551616) (hni : n ≤ 9223372036854775807)
    (hmt : modC th 8 (t : Int)) (hmk : modC kd 7 6) :
    Calls Try.prog 25 #[.pointer (some ⟨L.g, 0, none⟩), .pointer (some ⟨h, 0, none⟩), .agg #[.int .i64 kd, .int .i64 th, .int .u64 (off : Int), .int .u64 (old : Int), .int .u64 (val : Int), .int .i64 n]] w (DpPost w F o o' h (Ta + 2) (Tb + 2) L (armP Ra n) (armP Rb n)) := by
  have _u := And.intro ho (And.intro hd (And.intro hv hni))
  generalize hpost : DpPost w F o o' h (Ta + 2) (Tb + 2) L (armP Ra n) (armP Rb n) = post
  have hP := Ph6.start2 h1 h2 kd th n off old val
  have hth : ∀ wx, Ph6 w F o o' h L w.heap.size kd th n off old val Ta Ra Tb Rb wx → Calls Try.prog 17 #[.pointer (some ⟨L.g, 0, none⟩), .int .i64 (t : Int)] wx (fun e w' => e = .returned (.pointer (some ⟨L.tb t, 0, none⟩)) ∧ wx = w') := fun wx hp => hp.quiet fun F' hd => thread_in hd ht
  have cA : ∀ wx, Ph6 w F o o' h L w.heap.size kd th n off old val Ta Ra Tb Rb wx → Calls Try.prog 24 #[.pointer (some ⟨L.g, 0, none⟩), .int .i64 n] wx (PhPost w F o o' h L w.heap.size kd th n off old val Ta (armP Ra n) Tb Rb (.tuple #[])) := fun wx hp => hp.dev hn fun F' hd => arm_any hd n hni
  have cB : ∀ wx, Ph6 w F o o' h L w.heap.size kd th n off old val Ta (armP Ra n) Tb Rb wx → Calls Try.prog 61 #[.pointer (some ⟨h, 0, none⟩), .int .i64 n] wx (PhPost w F o o' h L w.heap.size kd th n off old val Ta (armP Ra n) Tb (armP Rb n) (.tuple #[])) := fun wx hp => hp.ref hn fun F' hd => rarm_any hd n hni
  have hfin : ∀ wx b, Ph6 w F o o' h L w.heap.size kd th n off old val Ta (armP Ra n) Tb (armP Rb n) wx → post (.returned (.bool b)) wx := fun wx b hp => by rw [← hpost]; exact hp.fin2 (by omega) (by omega) hTa hTb b
  obtain ⟨_, c0, c1, c2, c3, c4, c5, _⟩ := hP.cells (v := .bool true) rfl
  replace cA := Lib.hid cA
  replace cB := Lib.hid cB
  replace hth := Lib.hid hth
  replace hfin := Lib.hid hfin
  replace hmt := Lib.hid hmt
  replace hmk := Lib.hid hmk
  clear h1 h2 hpost hTa hTb hn
  go_enter Try.func25, Try.ntmps25
  go_wp2_with fail
  refine (hmt.out _).mono ?_
  rintro e w' ⟨rfl, rfl⟩
  go_wp2_with fail
  refine (hth.out _ hP).mono ?_
  rintro e w' ⟨rfl, rfl⟩
  go_wp2_with fail
  refine (hmk.out _).mono ?_
  rintro e w' ⟨rfl, rfl⟩
  go_wp2_with fail
  refine (cA.out _ hP).mono ?_
  rintro e w1 ⟨rfl, c0, c1, c2, c3, c4, c5, hP1⟩
  clear hP
  go_wp2_with fail
  refine (cB.out _ hP1).mono ?_
  rintro e w2 ⟨rfl, c0, c1, c2, c3, c4, c5, hP2⟩
  have hf := Lib.hid (hfin.out _ true hP2)
  clear hP1 hP2
  go_wp2_with fail
  first | exact hf.out | (go_ret; exact hf.out)
theorem dp_any (h1 : DevSt w F o L Ta Ra) (h2 : RefSt w F o' h Tb Rb) (hn : o ≠ o') (hTa : Ta + 2 ≤ 100000) (hTb : Tb + 2 ≤ 100000) (x : Evt) (hx : x.Fit) :
    Calls Try.prog 25 #[.pointer (some ⟨L.g, 0, none⟩), .pointer (some ⟨h, 0, none⟩), .agg #[.int .i64 x.kind, .int .i64 x.thr, .int .u64 (x.off : Int), .int .u64 (x.old : Int), .int .u64 (x.val : Int), .int .i64 x.n]] w (DpPost w F o o' h (Ta + 2) (Tb + 2) L (doP Ra x) (doP Rb x)) := by
  have hmt : modC x.thr 8 ((x.t : Nat) : Int) := mod_lit (k := 8) rfl (by omega) (by omega) hx.t x.t_int.symm
  have hmk : ∀ c, x.kind % 7 = c → modC x.kind 7 c := fun c hc => mod_lit (k := 7) rfl (by omega) (by omega) hx.k hc
  have h07 : x.kind % 7 = 0 ∨ x.kind % 7 = 1 ∨ x.kind % 7 = 2 ∨ x.kind % 7 = 3 ∨ x.kind % 7 = 4 ∨ x.kind % 7 = 5 ∨ x.kind % 7 = 6 := by omega
  have hni := hx.n.2
  rcases h07 with h7 | h7 | h7 | h7 | h7 | h7 | h7
  · rw [show doP Ra x = mayP Ra x.t (Ra.isB x.off) from by simp [doP, h7], show doP Rb x = mayP Rb x.t (Rb.isB x.off) from by simp [doP, h7]]; exact dp_0 h1 h2 hn hTa hTb x.kind x.thr x.n x.t x.off x.old x.val x.t_lt hx.o hx.d hx.v hni hmt (hmk _ h7)
  · rw [show doP Ra x = storeP Ra x.t x.off x.val from by simp [doP, h7], show doP Rb x = storeP Rb x.t x.off x.val from by simp [doP, h7]]; exact dp_1 h1 h2 hn hTa hTb x.kind x.thr x.n x.t x.off x.old x.val x.t_lt hx.o hx.d hx.v hni hmt (hmk _ h7)
  · rw [show doP Ra x = casP Ra x.t x.off x.old x.val from by simp [doP, h7], show doP Rb x = casP Rb x.t x.off x.old x.val from by simp [doP, h7]]; exact dp_2 h1 h2 hn hTa hTb x.kind x.thr x.n x.t x.off x.old x.val x.t_lt hx.o hx.d hx.v hni hmt (hmk _ h7)
  · rw [show doP Ra x = flushP Ra x.t x.off from by simp [doP, h7], show doP Rb x = flushP Rb x.t x.off from by simp [doP, h7]]; exact dp_3 h1 h2 hn hTa hTb x.kind x.thr x.n x.t x.off x.old x.val x.t_lt hx.o hx.d hx.v hni hmt (hmk _ h7)
  · rw [show doP Ra x = fenceP Ra x.t from by simp [doP, h7], show doP Rb x = fenceP Rb x.t from by simp [doP, h7]]; exact dp_4 h1 h2 hn hTa hTb x.kind x.thr x.n x.t x.off x.old x.val x.t_lt hx.o hx.d hx.v hni hmt (hmk _ h7)
  · rw [show doP Ra x = backP Ra (wrap64 (x.off : Int)) x.n from by simp [doP, Evt.io, h7], show doP Rb x = backP Rb (wrap64 (x.off : Int)) x.n from by simp [doP, Evt.io, h7]]; exact dp_5 h1 h2 hn hTa hTb x.kind x.thr x.n x.t x.off x.old x.val x.t_lt hx.o hx.d hx.v hni hmt (hmk _ h7) _ rfl
  · rw [show doP Ra x = armP Ra x.n from by simp [doP, h7], show doP Rb x = armP Rb x.n from by simp [doP, h7]]; exact dp_6 h1 h2 hn hTa hTb x.kind x.thr x.n x.t x.off x.old x.val x.t_lt hx.o hx.d hx.v hni hmt (hmk _ h7)
end Go.Proofs.Ytkmhanjddkplbaa
