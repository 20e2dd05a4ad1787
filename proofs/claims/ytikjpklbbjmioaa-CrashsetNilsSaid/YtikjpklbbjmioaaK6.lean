/- crashset: At. -/
import Derived.Test.YtikjpklbbjmioaaK5
namespace Go.Proofs.Ytikjpklbbjmioaa
open Go.RowKit Go.Maps
variable {w : World} {F : Own} {o T : Nat} {R : Dv} {L : Lay}

/-- The bytes of combination n. -/
def atB (R : Dv) (n : Nat) : List Nat := bytesL (crashW R (kOf R (digR R (dirtyL R) n)))
def atOk (R : Dv) (n : Nat) : Bool := decide (restR R (dirtyL R) n = 0)
def AtPost (w : World) (R : Dv) (n : Nat) (e : Ending) (w' : World) : Prop :=
  e = .returned (if atOk R n = true then .tuple #[.agg #[.string (strOf (atB R n))], .int .i64 0] else .tuple #[.agg #[Value.string ⟨#[]⟩], .int .i64 2]) ∧ Below w.heap.size w w'
set_option maxHeartbeats 2000000 in
set_option maxRecDepth 100000 in
theorem at_any (h : DevSt w F o L T R) (n : Nat) (hn : n < 18446744073709551616) : Calls Try.prog 23 #[.pointer (some ⟨L.g, 0, none⟩), .int .u64 (n : Int)] w (AtPost w R n) := by
  generalize hpost : AtPost w R n = post
  have hB0 := (Below.refl _ w).alloc (Nat.le_refl _) (.cells #[Value.string ⟨#[]⟩] 44)
  have hI0 := Has.new w [Value.string ⟨#[]⟩] 44
  have hex := Lib.hid (examine_any (h.other (o' := o + 1) (Dstep.below (F := F) hB0) (by omega)))
  have hsp := Lib.hid (fun (wx : World) (pv lv hv : Value) (hs : SetSt wx R pv lv hv) => split_any h.ok hs n hn)
  have him := Lib.hid (fun (wx : World) (pv lv hv : Value) (hs : SetSt wx R pv lv hv) (b : Nat) (hb : Has wx b (nats (digR R (dirtyL R) n)) 3) => cimage_any h.ok hs (some ⟨b, 0, none⟩) (digR R (dirtyL R) n).length (digR R (dirtyL R) n) (Rd.of_has hb _ _) (digR_len R _ _) (fun i l hl => digR_le R _ n i l hl))
  have hdl := digR_len R (dirtyL R) n
  replace hpost := Lib.hid hpost
  clear h
  go_enter Try.func23, Try.ntmps23
  go_wp2_with fail
  refine hex.out.mono ?_
  rintro e w1 ⟨pv, lv, hv, rfl, hs1, B1⟩
  have hB1 := hB0.trans (B1.mono hB0.size)
  have hI1 := hI0.only (Only.of_below B1) (by simp)
  obtain ⟨w2, hw2⟩ : ∃ w2, w2 = w1.alloc (.cells #[pv, lv, hv] 102) := ⟨_, rfl⟩
  have B2 : Below w1.heap.size w1 w2 := by rw [hw2]; exact (Below.refl _ _).alloc (Nat.le_refl _) _
  have hs2 := hs1.kept B2
  have hS2 : Has w2 w1.heap.size [pv, lv, hv] 102 := by rw [hw2]; exact Has.new w1 [pv, lv, hv] 102
  have hsp2 := hsp.out w2 pv lv hv hs2
  have hB2 := hB1.trans (B2.mono hB1.size)
  have hI2 := hI1.only (Only.of_below B2) (by have := hI1.lt; omega)
  rw [hw2] at hsp2
  obtain ⟨⟨pb, rfl, _⟩, ⟨la, lc, rfl, _⟩, ⟨ha, hc, vs, rfl, _⟩⟩ := id hs1
  replace hsp2 := Lib.hid hsp2
  replace hs2 := Lib.hid hs2
  replace hS2 := Lib.hid hS2
  replace hB2 := Lib.hid hB2
  replace hI2 := Lib.hid hI2
  replace hw2 := Lib.hid hw2
  clear hs1 B1 hB1 hI1 B2 hB0 hI0 hsp hex
  have hat : atB R n = bytesL (crashW R (kOf R (digR R (dirtyL R) n))) := rfl
  have hok : atOk R n = decide (restR R (dirtyL R) n = 0) := rfl
  have hsp3 : Calls Try.prog 49 #[.agg #[.slice (some ⟨pb, 0, none⟩) (bytesL R.perW).length (bytesL R.perW).length, .slice la (dirtyL R).length lc, .slice ha (dirtyL R).length hc], .int .u64 (n : Int)]
      (w1.alloc (.cells #[.slice (some ⟨pb, 0, none⟩) (bytesL R.perW).length (bytesL R.perW).length, .slice la (dirtyL R).length lc, .slice ha (dirtyL R).length hc] 102)) fun e w3 =>
      ∃ b, e = .returned (.tuple #[.slice (some ⟨b, 0, none⟩) (dirtyL R).length (dirtyL R).length, .bool (decide (restR R (dirtyL R) n = 0))]) ∧
        (w3.cell? ⟨w1.heap.size, 0, none⟩ = some (.slice (some ⟨pb, 0, none⟩) (bytesL R.perW).length (bytesL R.perW).length) ∧ w3.cell? ⟨w1.heap.size, 1, none⟩ = some (.slice la (dirtyL R).length lc) ∧ w3.cell? ⟨w1.heap.size, 2, none⟩ = some (.slice ha (dirtyL R).length hc)) ∧
        (w3.cell? ⟨w.heap.size, 0, none⟩ = some (Value.string ⟨#[]⟩) ∧ w3.frozen? ⟨w.heap.size, 0, none⟩ = false) ∧ Has w3 w.heap.size [Value.string ⟨#[]⟩] 44 ∧ Below w.heap.size w w3 ∧
        Calls Try.prog 56 #[.agg #[.slice (some ⟨pb, 0, none⟩) (bytesL R.perW).length (bytesL R.perW).length, .slice la (dirtyL R).length lc, .slice ha (dirtyL R).length hc], .slice (some ⟨b, 0, none⟩) (dirtyL R).length (dirtyL R).length] w3 (CImgPost w3 R (digR R (dirtyL R) n)) := by
    refine hsp2.out.mono ?_
    rintro e w3 ⟨b, rfl, hb3, B3, hbf⟩
    rw [← hw2.out] at B3
    have hs3 := hs2.out.kept B3
    have hS3 := hS2.out.only (Only.of_below B3) (by have := hS2.out.lt; omega)
    have hI3 := hI2.out.only (Only.of_below B3) (by have := hI2.out.lt; omega)
    have him3 := him.out w3 _ _ _ hs3 b hb3
    rw [hdl] at him3
    exact ⟨b, rfl, ⟨hS3.cell (o := 0) rfl, hS3.cell (o := 1) rfl, hS3.cell (o := 2) rfl⟩, ⟨hI3.cell (o := 0) rfl, hI3.free 0⟩, hI3, hB2.out.trans (B3.mono hB2.out.size), him3⟩
  generalize digR R (dirtyL R) n = dg at *
  generalize restR R (dirtyL R) n = rs at *
  replace hat := Lib.hid hat
  replace hok := Lib.hid hok
  clear him hs2 hS2 hB2 hI2 hsp2
  by_cases hr : rs = 0
  · rw [decide_eq_true hr] at hsp3
    replace hsp3 := Lib.hid hsp3
    go_wp2_with (first
      | (refine hsp3.out.mono ?_; rintro e w3 ⟨b, rfl, ⟨t0, t1, t2⟩, ⟨i3, f3⟩, hI3, hB3, him3⟩; replace him3 := Lib.hid him3; replace hI3 := Lib.hid hI3; replace hB3 := Lib.hid hB3)
      | (refine him3.out.mono ?_; rintro e w4 ⟨rfl, B4⟩; have hI4 := hI3.out.only (Only.of_below B4) (by have := hI3.out.lt; omega); have i4 := hI4.cell (o := 0) rfl; have f4 := hI4.free 0; have hB4 := hB3.out.trans (B4.mono hB3.out.size); replace hI4 := Lib.hid hI4; replace hB4 := Lib.hid hB4))
    have hI5 := hI4.out.set 0 (.string (strOf (bytesL (crashW R (kOf R dg)))))
    have q0 := hI5.cell (o := 0) rfl
    have hx : post (.returned (.tuple #[.agg #[.string (strOf (bytesL (crashW R (kOf R dg))))], .int .i64 0])) (w4.setCell ⟨w.heap.size, 0, none⟩ (.string (strOf (bytesL (crashW R (kOf R dg)))))) := by
      rw [← hpost.out]
      refine ⟨?_, hB4.out.setCell (p := ⟨w.heap.size, 0, none⟩) (Nat.le_refl _) _⟩
      rw [hok.out, decide_eq_true hr, if_pos rfl, hat.out]
    exact bodyPost_ret (v := .tuple #[.agg #[.string (strOf (bytesL (crashW R (kOf R dg))))], .int .i64 0]) (by simp [results, Try.results23, go_sem, q0]) rfl hx
  · rw [decide_eq_false hr] at hsp3
    replace hsp3 := Lib.hid hsp3
    go_wp2_with (refine hsp3.out.mono ?_; rintro e w3 ⟨b, rfl, ⟨t0, t1, t2⟩, ⟨i3, f3⟩, hI3, hB3, him3⟩; replace him3 := Lib.hid him3; replace hI3 := Lib.hid hI3; replace hB3 := Lib.hid hB3)
    have hI5 := hI3.out.set 0 (Value.string ⟨#[]⟩)
    have q0 := hI5.cell (o := 0) rfl
    have hx : post (.returned (.tuple #[.agg #[Value.string ⟨#[]⟩], .int .i64 2])) (w3.setCell ⟨w.heap.size, 0, none⟩ (Value.string ⟨#[]⟩)) := by
      rw [← hpost.out]
      refine ⟨?_, hB3.out.setCell (p := ⟨w.heap.size, 0, none⟩) (Nat.le_refl _) _⟩
      rw [hok.out, decide_eq_false hr, if_neg (by decide)]
    exact bodyPost_ret (v := .tuple #[.agg #[Value.string ⟨#[]⟩], .int .i64 2]) (by simp [results, Try.results23, go_sem, q0]) rfl hx
end Go.Proofs.Ytikjpklbbjmioaa
