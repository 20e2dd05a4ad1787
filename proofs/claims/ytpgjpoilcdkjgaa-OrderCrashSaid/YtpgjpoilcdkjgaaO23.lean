/- slices.Equal; awake. -/
import Derived.Test.YtpgjpoilcdkjgaaO17
import Derived.Test.YtpgjpoilcdkjgaaO5
import Derived.Test.YtpgjpoilcdkjgaaO6
import Derived.Test.YtpgjpoilcdkjgaaShelf
namespace Go.Proofs.Ytpgjpoilcdkjgaa
open Go.RowKit

theorem ints_cell {w : World} {b off : Nat} {xs : List Int} (h : ∀ j u, (xs.map (Value.int .i64))[j]? = some u → w.cell? ⟨b, off + j, none⟩ = some u) (j : Nat) (hj : j < xs.length) : w.cell? ⟨b, off + j, none⟩ = some (.int .i64 (xs.getD j 0)) :=
  h j _ (ints_get xs .i64 j hj)
theorem equal_any (va vb : Value) (xs ys : List Int) (w : World) (ha : Rd w va xs.length (xs.map (.int .i64))) (hb : Rd w vb ys.length (ys.map (.int .i64))) (hx : xs.length ≤ 9223372036854775807) (hy : ys.length ≤ 9223372036854775807) :
    Calls Try.prog 15 #[va, vb] w fun e w' => e = .returned (.bool (decide (xs = ys))) ∧ ∃ m, w.drewN m = w' := by
  obtain ⟨a, ca, rfl, ha⟩ := ha
  obtain ⟨b, cb, rfl, hb⟩ := hb
  by_cases h0 : xs.length = 0
  · obtain rfl : xs = [] := List.eq_nil_of_length_eq_zero h0
    refine (Try.slices_Equal_int_empty a b ca ys.length cb w hy).mono ?_
    rintro e w' ⟨rfl, rfl⟩
    refine ⟨?_, 0, rfl⟩
    have : decide (ys.length = 0) = decide ([] = ys) := by
      cases ys <;> simp
    rw [this]
  by_cases hn : xs.length = ys.length
  · rcases ha with ⟨h, _⟩ | ⟨b1, o1, rfl, ha⟩
    · omega
    rcases hb with ⟨h, _⟩ | ⟨b2, o2, rfl, hb⟩
    · omega
    refine (Try.slices_Equal_int b1 o1 xs.length ca b2 o2 ys.length cb xs ys w (Nat.le_refl _) (Nat.le_refl _) hx hy (ints_cell ha) (ints_cell hb)).mono ?_
    rintro e w' ⟨rfl, q, rfl⟩
    refine ⟨?_, q, rfl⟩
    rw [List.take_of_length_le (Nat.le_refl _), List.take_of_length_le (Nat.le_refl _)]
    congr 2
    rw [Bool.eq_iff_iff]; simp
  · refine (Try.slices_Equal_int_lens a b xs.length ca ys.length cb w hn).mono ?_
    rintro e w' ⟨rfl, rfl⟩
    refine ⟨?_, 0, rfl⟩
    have : decide (xs = ys) = false := decide_eq_false (fun e => hn (by rw [e]))
    rw [this]
theorem nats_ints (l : List Nat) : nats l = (l.map fun (n : Nat) => (n : Int)).map (.int .i64) := by simp [nats]

theorem image_yes (g : Nat) (G : Gr) (va : Value) (set : List Int) (w : World) (h : GraphSt w g G) (hs : Rd w va set.length (set.map (.int .i64))) (hsl : set.length ≤ 9223372036854775807) (hc : closedP G set = true) :
    Calls Try.prog 23 #[.pointer (some ⟨g, 0, none⟩), va] w fun e w' => ∃ b, e = .returned (.tuple #[.slice (some ⟨b, 0, none⟩) (G.n * 64) (G.n * 64), .int .i64 0]) ∧ Has w' b (bytesV (imgP G set)) 5 ∧ Below w.heap.size w w' ∧ w.heap.size ≤ b :=
  (image_any g G va set w h hs hsl).mono fun e w' hh => by
    unfold ImgPost at hh; rw [if_pos hc] at hh; exact hh
theorem image_no (g : Nat) (G : Gr) (va : Value) (set : List Int) (w : World) (h : GraphSt w g G) (hs : Rd w va set.length (set.map (.int .i64))) (hsl : set.length ≤ 9223372036854775807) (hc : ¬ closedP G set = true) :
    Calls Try.prog 23 #[.pointer (some ⟨g, 0, none⟩), va] w fun e w' => e = .returned (.tuple #[.slice none 0 0, .int .i64 1]) ∧ Below w.heap.size w w' :=
  (image_any g G va set w h hs hsl).mono fun e w' hh => by
    unfold ImgPost at hh; rw [if_neg hc] at hh; exact hh

def evs0 : List Ev := [⟨1, 0, 0, 7, 0, 0, 0, .slice none 0 0⟩, ⟨1, 0, 8, 1, 0, 0, 0, .slice none 0 0⟩, ⟨3, 0, 0, 0, 0, 0, 0, .slice none 0 0⟩, ⟨1, 0, 0, 9, 0, 0, 0, .slice none 0 0⟩, ⟨4, 0, 0, 0, 0, 0, 0, .slice none 0 0⟩]
def G0 : Gr := ⟨1, [(0, 7), (8, 1), (0, 9)], [0, 1, 2], [3], [2]⟩
theorem evs0_G : (runP 1 evs0).G = G0 := by kernel_rfl
theorem evs0_good : ∀ e ∈ evs0, e.Good := by
  intro e he
  simp only [evs0, List.mem_cons, List.not_mem_nil, or_false] at he
  rcases he with rfl | rfl | rfl | rfl | rfl
  all_goals exact ⟨⟨by decide, by decide, by decide, by decide, by decide, by decide, by simp, by simp⟩, by simp, none, 0, 0, rfl, by decide⟩
theorem new0 (a : Option Addr) (cap : Nat) (w : World) (h : Rd w (.slice a 5 cap) 5 (evCells evs0)) : Calls Try.prog 14 #[.int .i64 1, .slice a 5 cap] w (fun e w' => ∃ g, e = .returned (.tuple #[.pointer (some ⟨g, 0, none⟩), .int .i64 0]) ∧ GraphSt w' g G0 ∧ Below w.heap.size w w') := by
  have := new_ok 1 evs0 a cap w (by omega) (by omega) (by decide) h evs0_good
  unfold NewPost at this
  rw [evs0_G] at this
  exact this
def evs0L : List Value := [.int .u8 1, .int .i64 0, .int .u64 0, .int .u64 7, .int .u64 0, .int .i64 0, .int .i64 0, .slice none 0 0, .int .u8 1, .int .i64 0, .int .u64 8, .int .u64 1, .int .u64 0, .int .i64 0, .int .i64 0, .slice none 0 0,
  .int .u8 3, .int .i64 0, .int .u64 0, .int .u64 0, .int .u64 0, .int .i64 0, .int .i64 0, .slice none 0 0, .int .u8 1, .int .i64 0, .int .u64 0, .int .u64 9, .int .u64 0, .int .i64 0, .int .i64 0, .slice none 0 0,
  .int .u8 4, .int .i64 0, .int .u64 0, .int .u64 0, .int .u64 0, .int .i64 0, .int .i64 0, .slice none 0 0]
theorem evs0L_eq : evCells evs0 = evs0L := by kernel_rfl

theorem img0 : (bytesV (imgP G0 [2, 1, 0]))[0]? = some (.int .u8 9) := by kernel_rfl
theorem img8 : (bytesV (imgP G0 [2, 1, 0]))[8]? = some (.int .u8 1) := by kernel_rfl

set_option maxHeartbeats 4000000 in
set_option maxRecDepth 100000 in
theorem awake_any (w : World) : Calls Try.prog 12 #[] w (BoolPost w true) := by
  have hN := Has.new w evs0L 65
  have hR : Rd (w.alloc (.cells evs0L.toArray 65)) (.slice (some ⟨w.heap.size, 0, none⟩) 5 5) 5 (evCells evs0) := by rw [evs0L_eq]; exact Rd.of_has hN 5 5
  have hnew := new0 _ 5 _ hR
  have hB0 : Below w.heap.size w (w.alloc (.cells evs0L.toArray 65)) := (Below.refl _ _).alloc (Nat.le_refl _) _
  unfold evs0L at hnew hB0
  replace hnew := Lib.hid hnew
  clear hN hR
  go_enter Try.func12, Try.ntmps12
  go_wp2_with fail
  refine hnew.out.mono ?_
  rintro e w1 ⟨g, rfl, hG, hB1⟩
  have hBa := hB0.trans (hB1.mono hB0.size)
  have hl : G0.ws.length = 3 := rfl
  have hs := stores_any g G0 w1 hG
  have hm := mandatory_any g G0 w1 hG
  have hcut : cutL G0 G0.md = [0, 1] := by decide
  rw [hcut] at hm
  rw [hl] at hs
  replace hs := Lib.hid hs
  replace hm := Lib.hid hm
  clear hnew hB0 hB1
  go_wp2_with fail
  refine hs.out.mono ?_
  rintro e w2 ⟨rfl, rfl⟩
  go_wp2_with fail
  refine hm.out.mono ?_
  rintro e w3 ⟨sa, sc, rfl, hown, hB3, _⟩
  have hGa := hG.kept hB3
  have hBb := hBa.trans (hB3.mono hBa.size)
  have hA3 : Below w3.heap.size w3 (w3.alloc (.cells #[.int .i64 0, .int .i64 1] 3)) := (Below.refl _ _).alloc (Nat.le_refl _) _
  have hq : Calls Try.prog 15 #[.slice sa 2 sc, .slice (some ⟨w3.heap.size, 0, none⟩) 2 2] (w3.alloc (.cells #[.int .i64 0, .int .i64 1] 3)) fun e w' => e = .returned (.bool true) ∧ ∃ m, (w3.alloc (.cells #[.int .i64 0, .int .i64 1] 3)).drewN m = w' :=
    equal_any (.slice sa 2 sc) (.slice (some ⟨w3.heap.size, 0, none⟩) 2 2) [0, 1] [0, 1] _ ((Rd.of_own hown).kept hA3) (Rd.of_has (Has.new w3 [.int .i64 0, .int .i64 1] 3) 2 2) (by decide) (by decide)
  have hGb := hGa.kept hA3
  have hBc := hBb.trans (hA3.mono hBb.size)
  replace hq := Lib.hid hq
  clear hs hm hown hG hB3 hGa hBa hBb hA3
  go_wp2_with fail
  refine hq.out.mono ?_
  rintro e w4 ⟨rfl, m4, hw4⟩
  have hGc : GraphSt w4 g G0 := hw4 ▸ hGb.drewN m4
  have hBd : Below w.heap.size w w4 := hw4 ▸ below_drewN hBc m4
  have hc := count_any g G0 w4 hGc
  have hcv : cntV (cntP G0 G0.n) = .tuple #[.int .u64 2, .bool true] := by kernel_rfl
  rw [hcv] at hc
  replace hc := Lib.hid hc
  replace hw4 := Lib.hid hw4
  clear hq hGb hBc hcv
  go_wp2_with fail
  refine hc.out.mono ?_
  rintro e w5 ⟨rfl, m5, hw5⟩
  have hGd : GraphSt w5 g G0 := hw5 ▸ hGc.drewN m5
  have hBe : Below w.heap.size w w5 := hw5 ▸ below_drewN hBd m5
  have hA5 : Below w5.heap.size w5 (w5.alloc (.cells #[.int .i64 2, .int .i64 1, .int .i64 0] 3)) := (Below.refl _ _).alloc (Nat.le_refl _) _
  have him := image_yes g G0 (.slice (some ⟨w5.heap.size, 0, none⟩) 3 3) [2, 1, 0] (w5.alloc (.cells #[.int .i64 2, .int .i64 1, .int .i64 0] 3)) (hGd.kept hA5) (Rd.of_has (Has.new w5 [.int .i64 2, .int .i64 1, .int .i64 0] 3) 3 3) (by decide) (by decide)
  rw [show G0.n * 64 = 64 from rfl] at him
  have hGe := hGd.kept hA5
  have hBf := hBe.trans (hA5.mono hBe.size)
  replace him := Lib.hid him
  replace hw5 := Lib.hid hw5
  clear hc hGc hBd hGd hBe hA5
  go_wp2_with fail
  refine him.out.mono ?_
  rintro e w6 ⟨b, rfl, hP, hB6, hb⟩
  have p0 := hP.cell (o := 0) img0
  have p8 := hP.cell (o := 8) img8
  have hGf := hGe.kept hB6
  have hBg := hBf.trans (hB6.mono hBf.size)
  have hbf := fun (i j : Int) (w' : World) h => before_any g G0 i j w' h
  have b1 := hbf 0 2 w6 hGf
  have e1 : G0.before 0 2 = true := by decide
  rw [e1] at b1
  replace b1 := Lib.hid b1
  replace hbf := Lib.hid hbf
  clear him hGe hBf hP hB6 hb e1
  go_wp2_with fail
  refine b1.out.mono ?_
  rintro e w7 ⟨rfl, m7, hw7⟩
  have hGg : GraphSt w7 g G0 := hw7 ▸ hGf.drewN m7
  have hBh : Below w.heap.size w w7 := hw7 ▸ below_drewN hBg m7
  have b2 := hbf.out 2 1 w7 hGg
  have e2 : G0.before 2 1 = false := by decide
  rw [e2] at b2
  replace b2 := Lib.hid b2
  replace hw7 := Lib.hid hw7
  clear b1 hGf hBg e2 p0 p8
  go_wp2_with fail
  refine b2.out.mono ?_
  rintro e w8 ⟨rfl, m8, hw8⟩
  have hGh : GraphSt w8 g G0 := hw8 ▸ hGg.drewN m8
  have hBi : Below w.heap.size w w8 := hw8 ▸ below_drewN hBh m8
  have hA8 : Below w8.heap.size w8 (w8.alloc (.cells #[.int .i64 0, .int .i64 1] 3)) := (Below.refl _ _).alloc (Nat.le_refl _) _
  have hc1 : Calls Try.prog 18 #[.pointer (some ⟨g, 0, none⟩), .slice (some ⟨w8.heap.size, 0, none⟩) 2 2] (w8.alloc (.cells #[.int .i64 0, .int .i64 1] 3)) (BoolPost (w8.alloc (.cells #[.int .i64 0, .int .i64 1] 3)) (closedP G0 [0, 1])) :=
    closed_any g G0 (.slice (some ⟨w8.heap.size, 0, none⟩) 2 2) [0, 1] _ (hGh.kept hA8) (Rd.of_has (Has.new w8 [.int .i64 0, .int .i64 1] 3) 2 2) (by decide)
  rw [(by decide : closedP G0 [0, 1] = true)] at hc1
  have hGi := hGh.kept hA8
  have hBj := hBi.trans (hA8.mono hBi.size)
  replace hc1 := Lib.hid hc1
  replace hw8 := Lib.hid hw8
  clear b2 hGg hBh hGh hBi hA8
  go_wp2_with fail
  refine hc1.out.mono ?_
  rintro e w9 ⟨rfl, hB9⟩
  have hGj := hGi.kept hB9
  have hBk := hBj.trans (hB9.mono hBj.size)
  have hA9 : Below w9.heap.size w9 (w9.alloc (.cells #[.int .i64 0] 3)) := (Below.refl _ _).alloc (Nat.le_refl _) _
  have hc2 : Calls Try.prog 18 #[.pointer (some ⟨g, 0, none⟩), .slice (some ⟨w9.heap.size, 0, none⟩) 1 1] (w9.alloc (.cells #[.int .i64 0] 3)) (BoolPost (w9.alloc (.cells #[.int .i64 0] 3)) (closedP G0 [0])) :=
    closed_any g G0 (.slice (some ⟨w9.heap.size, 0, none⟩) 1 1) [0] _ (hGj.kept hA9) (Rd.of_has (Has.new w9 [.int .i64 0] 3) 1 1) (by decide)
  rw [(by decide : closedP G0 [0] = false)] at hc2
  have hBl := hBk.trans (hA9.mono hBk.size)
  replace hc2 := Lib.hid hc2
  clear hc1 hGi hBj hB9 hGj hBk hA9
  go_wp2_with fail
  refine hc2.out.mono ?_
  rintro e w10 ⟨rfl, hB10⟩
  have hBm := hBl.trans (hB10.mono hBl.size)
  go_wp2_with fail
  go_ret
  exact ⟨rfl, hBm⟩
end Go.Proofs.Ytpgjpoilcdkjgaa
