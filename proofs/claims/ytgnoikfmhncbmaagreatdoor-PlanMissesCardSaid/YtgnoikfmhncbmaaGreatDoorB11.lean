/- Walks: Bounds of the program. The classes of worlds of a region whose calls make memory and whose last stores fill two boxes of the call's own. -/
import Derived.Test.YtgnoikfmhncbmaaGreatDoorB9
set_option linter.unusedVariables false
set_option linter.unusedSimpArgs false
namespace Go.Proofs.YtgnoikfmhncbmaaGreatDoor
open Go.RowKit
def bndV (s : Sp) : Value := .tuple #[s.lo.val, s.hi.val, .bool s.ex]
set_option maxHeartbeats 4000000 in
set_option maxRecDepth 100000 in
theorem bounds_any (root : AT) (col : ByteArray) (w : World) (hA : root.At w) (hnd : root.addrs.Nodup) (hF : root.Fit) (hsz : root.size ≤ 20000000) (hE : Env w) : Calls Tryz.prog 10 #[root.ptr, .string col] w (RPost w (bndV (bndP col root))) := by
  generalize hpost : RPost w (bndV (bndP col root)) = post
  replace hpost := Lib.hid hpost
  by_cases hn : root.nil? = true
  · have hr : root = .nil := by cases root with
      | nil => rfl
      | node => cases hn
    subst hr
    have hu : ∀ w : World, Calls Tryz.prog 28 #[.bool true] w (RPost w (.agg #[.int .u8 0, .bool true, .int .i64 0, .string ⟨#[]⟩, .bool false, .int .u8 0, .bool true, .int .i64 0, .string ⟨#[]⟩, .bool false, .bool true])) := unb_any true
    replace hu := Lib.hid hu
    unfold AT.ptr
    obtain ⟨W1, hW1⟩ : ∃ W1, W1 = (w.alloc (.cells #[.int .u8 0, .bool false, .int .i64 0, .string ⟨#[]⟩, .bool false] 28)).alloc (.cells #[.int .u8 0, .bool false, .int .i64 0, .string ⟨#[]⟩, .bool false] 28) := ⟨_, rfl⟩
    have HP : Has W1 (w.heap.size) [.int .u8 0, .bool false, .int .i64 0, .string ⟨#[]⟩, .bool false] 28 := by
      rw [hW1]; have h := Has.new (w) [.int .u8 0, .bool false, .int .i64 0, .string ⟨#[]⟩, .bool false] 28; (try simp only [World.size_alloc] at h); exact (h.alloc _)
    have HQ : Has W1 (w.heap.size + 1) [.int .u8 0, .bool false, .int .i64 0, .string ⟨#[]⟩, .bool false] 28 := by
      rw [hW1]; have h := Has.new ((w.alloc (.cells #[.int .u8 0, .bool false, .int .i64 0, .string ⟨#[]⟩, .bool false] 28))) [.int .u8 0, .bool false, .int .i64 0, .string ⟨#[]⟩, .bool false] 28; (try simp only [World.size_alloc] at h); exact h
    have hbW1 : Below w.heap.size w W1 := by rw [hW1]; exact (((Below.refl _ _).alloc (by first | exact Nat.le_refl _ | (simp only [World.size_alloc]; omega)) _).alloc (by first | exact Nat.le_refl _ | (simp only [World.size_alloc]; omega)) _)
    have hzW1 : W1.heap.size = w.heap.size + 2 := by rw [hW1]; simp
    replace hW1 := Lib.hid hW1
    go_enter Tryz.func10, Tryz.ntmps10
    replace hzW1 := Lib.hid hzW1
    go_wp2_with fail
    replace hzW1 := hzW1.out
    rw [show (w.alloc (.cells #[.int .u8 0, .bool false, .int .i64 0, .string ⟨#[]⟩, .bool false] 28)).alloc (.cells #[.int .u8 0, .bool false, .int .i64 0, .string ⟨#[]⟩, .bool false] 28) = W1 from hW1.out.symm]
    refine (hu.out _).mono ?_
    rintro e w1 ⟨rfl, hb1⟩
    replace HP : Has w1 (w.heap.size) [.int .u8 0, .bool false, .int .i64 0, .string ⟨#[]⟩, .bool false] 28 := HP.only (Only.of_below hb1) (Nat.not_le.2 HP.lt)
    replace HQ : Has w1 (w.heap.size + 1) [.int .u8 0, .bool false, .int .i64 0, .string ⟨#[]⟩, .bool false] 28 := HQ.only (Only.of_below hb1) (Nat.not_le.2 HQ.lt)
    have hbw1 : Below w.heap.size w w1 := hbW1.trans (hb1.mono hbW1.size)
    have hzw1 := hb1.size
    replace hb1 := Lib.hid hb1
    obtain ⟨W2, hW2⟩ : ∃ W2, W2 = w1.alloc (.cells #[.int .u8 0, .bool true, .int .i64 0, .string ⟨#[]⟩, .bool false, .int .u8 0, .bool true, .int .i64 0, .string ⟨#[]⟩, .bool false, .bool true] 92) := ⟨_, rfl⟩
    replace HP : Has W2 (w.heap.size) [.int .u8 0, .bool false, .int .i64 0, .string ⟨#[]⟩, .bool false] 28 := by rw [hW2]; exact (HP.alloc _)
    replace HQ : Has W2 (w.heap.size + 1) [.int .u8 0, .bool false, .int .i64 0, .string ⟨#[]⟩, .bool false] 28 := by rw [hW2]; exact (HQ.alloc _)
    have HS : Has W2 (w1.heap.size) [.int .u8 0, .bool true, .int .i64 0, .string ⟨#[]⟩, .bool false, .int .u8 0, .bool true, .int .i64 0, .string ⟨#[]⟩, .bool false, .bool true] 92 := by
      rw [hW2]; have h := Has.new (w1) [.int .u8 0, .bool true, .int .i64 0, .string ⟨#[]⟩, .bool false, .int .u8 0, .bool true, .int .i64 0, .string ⟨#[]⟩, .bool false, .bool true] 92; (try simp only [World.size_alloc] at h); exact h
    have hbW2 : Below w.heap.size w W2 := by rw [hW2]; exact (hbw1.alloc (by have := hbw1.size; (try simp only [World.size_alloc]); omega) _)
    have hzW2 : W2.heap.size = w1.heap.size + 1 := by rw [hW2]; simp
    replace hW2 := Lib.hid hW2
    go_upto_region 3 with fail
    rw [show w1.alloc (.cells #[.int .u8 0, .bool true, .int .i64 0, .string ⟨#[]⟩, .bool false, .int .u8 0, .bool true, .int .i64 0, .string ⟨#[]⟩, .bool false, .bool true] 92) = W2 from hW2.out.symm]
    have hlt0 : w.heap.size + 1 < w1.heap.size := by omega
    have cP0 := HP.cell (o := 0) rfl
    have cP1 := HP.cell (o := 1) rfl
    have cP2 := HP.cell (o := 2) rfl
    have cP3 := HP.cell (o := 3) rfl
    have cP4 := HP.cell (o := 4) rfl
    have cQ0 := HQ.cell (o := 0) rfl
    have cQ1 := HQ.cell (o := 1) rfl
    have cQ2 := HQ.cell (o := 2) rfl
    have cQ3 := HQ.cell (o := 3) rfl
    have cQ4 := HQ.cell (o := 4) rfl
    have cS0 := HS.cell (o := 0) rfl
    have cS1 := HS.cell (o := 1) rfl
    have cS2 := HS.cell (o := 2) rfl
    have cS3 := HS.cell (o := 3) rfl
    have cS4 := HS.cell (o := 4) rfl
    have cS5 := HS.cell (o := 5) rfl
    have cS6 := HS.cell (o := 6) rfl
    have cS7 := HS.cell (o := 7) rfl
    have cS8 := HS.cell (o := 8) rfl
    have cS9 := HS.cell (o := 9) rfl
    have cS10 := HS.cell (o := 10) rfl
    have fP0 := HP.free 0
    have fP1 := HP.free 1
    have fP2 := HP.free 2
    have fP3 := HP.free 3
    have fP4 := HP.free 4
    have fQ0 := HQ.free 0
    have fQ1 := HQ.free 1
    have fQ2 := HQ.free 2
    have fQ3 := HQ.free 3
    have fQ4 := HQ.free 4
    replace hzW1 := Lib.hid hzW1
    replace hzW2 := Lib.hid hzW2
    go_region
    replace hzW1 := hzW1.out
    replace hzW2 := hzW2.out
    obtain ⟨W3, hW3⟩ : ∃ W3, W3 = ((((W2.setCell ⟨w.heap.size, 0, none⟩ (.int .u8 0)).setCell ⟨w.heap.size, 1, none⟩ (.bool true)).setCell ⟨w.heap.size, 2, none⟩ (.int .i64 0)).setCell ⟨w.heap.size, 3, none⟩ (.string ⟨#[]⟩)).setCell ⟨w.heap.size, 4, none⟩ (.bool false) := ⟨_, rfl⟩
    replace HQ : Has W3 (w.heap.size + 1) [.int .u8 0, .bool false, .int .i64 0, .string ⟨#[]⟩, .bool false] 28 := by rw [hW3]; exact (((((HQ.set_ne (a := ⟨w.heap.size, 0, none⟩) (by first | (simp; done) | (simp; omega) | omega) _).set_ne (a := ⟨w.heap.size, 1, none⟩) (by first | (simp; done) | (simp; omega) | omega) _).set_ne (a := ⟨w.heap.size, 2, none⟩) (by first | (simp; done) | (simp; omega) | omega) _).set_ne (a := ⟨w.heap.size, 3, none⟩) (by first | (simp; done) | (simp; omega) | omega) _).set_ne (a := ⟨w.heap.size, 4, none⟩) (by first | (simp; done) | (simp; omega) | omega) _)
    replace HS : Has W3 (w1.heap.size) [.int .u8 0, .bool true, .int .i64 0, .string ⟨#[]⟩, .bool false, .int .u8 0, .bool true, .int .i64 0, .string ⟨#[]⟩, .bool false, .bool true] 92 := by rw [hW3]; exact (((((HS.set_ne (a := ⟨w.heap.size, 0, none⟩) (by first | (simp; done) | (simp; omega) | omega) _).set_ne (a := ⟨w.heap.size, 1, none⟩) (by first | (simp; done) | (simp; omega) | omega) _).set_ne (a := ⟨w.heap.size, 2, none⟩) (by first | (simp; done) | (simp; omega) | omega) _).set_ne (a := ⟨w.heap.size, 3, none⟩) (by first | (simp; done) | (simp; omega) | omega) _).set_ne (a := ⟨w.heap.size, 4, none⟩) (by first | (simp; done) | (simp; omega) | omega) _)
    replace HP : Has W3 (w.heap.size) [.int .u8 0, .bool true, .int .i64 0, .string ⟨#[]⟩, .bool false] 28 := by rw [hW3]; exact (((((HP.set 0 (.int .u8 0)).set 1 (.bool true)).set 2 (.int .i64 0)).set 3 (.string ⟨#[]⟩)).set 4 (.bool false))
    have hbW3 : Below w.heap.size w W3 := by rw [hW3]; exact (((((hbW2.setCell (p := ⟨w.heap.size, 0, none⟩) (by first | exact Nat.le_refl _ | (simp; done) | (simp; omega) | omega) _).setCell (p := ⟨w.heap.size, 1, none⟩) (by first | exact Nat.le_refl _ | (simp; done) | (simp; omega) | omega) _).setCell (p := ⟨w.heap.size, 2, none⟩) (by first | exact Nat.le_refl _ | (simp; done) | (simp; omega) | omega) _).setCell (p := ⟨w.heap.size, 3, none⟩) (by first | exact Nat.le_refl _ | (simp; done) | (simp; omega) | omega) _).setCell (p := ⟨w.heap.size, 4, none⟩) (by first | exact Nat.le_refl _ | (simp; done) | (simp; omega) | omega) _)
    have hzW3 : W3.heap.size = W2.heap.size := by rw [hW3]; simp
    replace hW3 := Lib.hid hW3
    obtain ⟨W4, hW4⟩ : ∃ W4, W4 = ((((W3.setCell ⟨w.heap.size + 1, 0, none⟩ (.int .u8 0)).setCell ⟨w.heap.size + 1, 1, none⟩ (.bool true)).setCell ⟨w.heap.size + 1, 2, none⟩ (.int .i64 0)).setCell ⟨w.heap.size + 1, 3, none⟩ (.string ⟨#[]⟩)).setCell ⟨w.heap.size + 1, 4, none⟩ (.bool false) := ⟨_, rfl⟩
    replace HP : Has W4 (w.heap.size) [.int .u8 0, .bool true, .int .i64 0, .string ⟨#[]⟩, .bool false] 28 := by rw [hW4]; exact (((((HP.set_ne (a := ⟨w.heap.size + 1, 0, none⟩) (by first | (simp; done) | (simp; omega) | omega) _).set_ne (a := ⟨w.heap.size + 1, 1, none⟩) (by first | (simp; done) | (simp; omega) | omega) _).set_ne (a := ⟨w.heap.size + 1, 2, none⟩) (by first | (simp; done) | (simp; omega) | omega) _).set_ne (a := ⟨w.heap.size + 1, 3, none⟩) (by first | (simp; done) | (simp; omega) | omega) _).set_ne (a := ⟨w.heap.size + 1, 4, none⟩) (by first | (simp; done) | (simp; omega) | omega) _)
    replace HS : Has W4 (w1.heap.size) [.int .u8 0, .bool true, .int .i64 0, .string ⟨#[]⟩, .bool false, .int .u8 0, .bool true, .int .i64 0, .string ⟨#[]⟩, .bool false, .bool true] 92 := by rw [hW4]; exact (((((HS.set_ne (a := ⟨w.heap.size + 1, 0, none⟩) (by first | (simp; done) | (simp; omega) | omega) _).set_ne (a := ⟨w.heap.size + 1, 1, none⟩) (by first | (simp; done) | (simp; omega) | omega) _).set_ne (a := ⟨w.heap.size + 1, 2, none⟩) (by first | (simp; done) | (simp; omega) | omega) _).set_ne (a := ⟨w.heap.size + 1, 3, none⟩) (by first | (simp; done) | (simp; omega) | omega) _).set_ne (a := ⟨w.heap.size + 1, 4, none⟩) (by first | (simp; done) | (simp; omega) | omega) _)
    replace HQ : Has W4 (w.heap.size + 1) [.int .u8 0, .bool true, .int .i64 0, .string ⟨#[]⟩, .bool false] 28 := by rw [hW4]; exact (((((HQ.set 0 (.int .u8 0)).set 1 (.bool true)).set 2 (.int .i64 0)).set 3 (.string ⟨#[]⟩)).set 4 (.bool false))
    have hbW4 : Below w.heap.size w W4 := by rw [hW4]; exact (((((hbW3.setCell (p := ⟨w.heap.size + 1, 0, none⟩) (by first | exact Nat.le_refl _ | (simp; done) | (simp; omega) | omega) _).setCell (p := ⟨w.heap.size + 1, 1, none⟩) (by first | exact Nat.le_refl _ | (simp; done) | (simp; omega) | omega) _).setCell (p := ⟨w.heap.size + 1, 2, none⟩) (by first | exact Nat.le_refl _ | (simp; done) | (simp; omega) | omega) _).setCell (p := ⟨w.heap.size + 1, 3, none⟩) (by first | exact Nat.le_refl _ | (simp; done) | (simp; omega) | omega) _).setCell (p := ⟨w.heap.size + 1, 4, none⟩) (by first | exact Nat.le_refl _ | (simp; done) | (simp; omega) | omega) _)
    have hzW4 : W4.heap.size = W3.heap.size := by rw [hW4]; simp
    replace hW4 := Lib.hid hW4
    have hf : post (.returned (.tuple #[.agg #[.int .u8 0, .bool true, .int .i64 0, .string ⟨#[]⟩, .bool false], .agg #[.int .u8 0, .bool true, .int .i64 0, .string ⟨#[]⟩, .bool false], .bool true])) W4.drew := by rw [← hpost.out]; skip; exact ⟨rfl, hbW4.drew⟩
    replace hf := Lib.hid hf
    have r0 := Lib.hid (HP.cell (o := 0) rfl)
    have r1 := Lib.hid (HP.cell (o := 1) rfl)
    have r2 := Lib.hid (HP.cell (o := 2) rfl)
    have r3 := Lib.hid (HP.cell (o := 3) rfl)
    have r4 := Lib.hid (HP.cell (o := 4) rfl)
    have s0 := Lib.hid (HQ.cell (o := 0) rfl)
    have s1 := Lib.hid (HQ.cell (o := 1) rfl)
    have s2 := Lib.hid (HQ.cell (o := 2) rfl)
    have s3 := Lib.hid (HQ.cell (o := 3) rfl)
    have s4 := Lib.hid (HQ.cell (o := 4) rfl)
    replace hzW1 := Lib.hid hzW1
    replace hzW2 := Lib.hid hzW2
    replace hzW3 := Lib.hid hzW3
    replace hzW4 := Lib.hid hzW4
    go_wp2_with fail
    rw [show ((((W2.setCell ⟨w.heap.size, 0, none⟩ (.int .u8 0)).setCell ⟨w.heap.size, 1, none⟩ (.bool true)).setCell ⟨w.heap.size, 2, none⟩ (.int .i64 0)).setCell ⟨w.heap.size, 3, none⟩ (.string ⟨#[]⟩)).setCell ⟨w.heap.size, 4, none⟩ (.bool false) = W3 from hW3.out.symm]
    rw [show ((((W3.setCell ⟨w.heap.size + 1, 0, none⟩ (.int .u8 0)).setCell ⟨w.heap.size + 1, 1, none⟩ (.bool true)).setCell ⟨w.heap.size + 1, 2, none⟩ (.int .i64 0)).setCell ⟨w.heap.size + 1, 3, none⟩ (.string ⟨#[]⟩)).setCell ⟨w.heap.size + 1, 4, none⟩ (.bool false) = W4 from hW4.out.symm]
    exact bodyPost_ret (v := .tuple #[.agg #[.int .u8 0, .bool true, .int .i64 0, .string ⟨#[]⟩, .bool false], .agg #[.int .u8 0, .bool true, .int .i64 0, .string ⟨#[]⟩, .bool false], .bool true]) (by simp [results, Tryz.results10, go_sem, r0.out, r1.out, r2.out, r3.out, r4.out, s0.out, s1.out, s2.out, s3.out, s4.out]) rfl hf.out
  · have hn : root.nil? = false := by simpa using hn
    obtain ⟨W1, hW1⟩ : ∃ W1, W1 = (w.alloc (.cells #[.int .u8 0, .bool false, .int .i64 0, .string ⟨#[]⟩, .bool false] 28)).alloc (.cells #[.int .u8 0, .bool false, .int .i64 0, .string ⟨#[]⟩, .bool false] 28) := ⟨_, rfl⟩
    have HP : Has W1 (w.heap.size) [.int .u8 0, .bool false, .int .i64 0, .string ⟨#[]⟩, .bool false] 28 := by
      rw [hW1]; have h := Has.new (w) [.int .u8 0, .bool false, .int .i64 0, .string ⟨#[]⟩, .bool false] 28; (try simp only [World.size_alloc] at h); exact (h.alloc _)
    have HQ : Has W1 (w.heap.size + 1) [.int .u8 0, .bool false, .int .i64 0, .string ⟨#[]⟩, .bool false] 28 := by
      rw [hW1]; have h := Has.new ((w.alloc (.cells #[.int .u8 0, .bool false, .int .i64 0, .string ⟨#[]⟩, .bool false] 28))) [.int .u8 0, .bool false, .int .i64 0, .string ⟨#[]⟩, .bool false] 28; (try simp only [World.size_alloc] at h); exact h
    have hbW1 : Below w.heap.size w W1 := by rw [hW1]; exact (((Below.refl _ _).alloc (by first | exact Nat.le_refl _ | (simp only [World.size_alloc]; omega)) _).alloc (by first | exact Nat.le_refl _ | (simp only [World.size_alloc]; omega)) _)
    have hzW1 : W1.heap.size = w.heap.size + 2 := by rw [hW1]; simp
    replace hW1 := Lib.hid hW1
    have hsp := spanof_any (col := col) hn (hA.below hbW1) hnd hF hsz (hE.below hbW1)
    rw [AT.ptr_b hn] at hsp ⊢
    generalize bndP col root = sp at *
    obtain ⟨⟨tl, nl, il, xl, bl⟩, ⟨th, nh, ih, xh, bh⟩, ex⟩ := sp
    dsimp only [Sp.val, Sp.cells, RV.cells, List.cons_append, List.nil_append] at hsp
    replace hsp := Lib.hid hsp
    clear hA hnd hF hE
    go_enter Tryz.func10, Tryz.ntmps10
    replace hzW1 := Lib.hid hzW1
    go_wp2_with fail
    replace hzW1 := hzW1.out
    rw [show (w.alloc (.cells #[.int .u8 0, .bool false, .int .i64 0, .string ⟨#[]⟩, .bool false] 28)).alloc (.cells #[.int .u8 0, .bool false, .int .i64 0, .string ⟨#[]⟩, .bool false] 28) = W1 from hW1.out.symm]
    refine hsp.out.mono ?_
    rintro e w1 ⟨rfl, hb1⟩
    replace HP : Has w1 (w.heap.size) [.int .u8 0, .bool false, .int .i64 0, .string ⟨#[]⟩, .bool false] 28 := HP.only (Only.of_below hb1) (Nat.not_le.2 HP.lt)
    replace HQ : Has w1 (w.heap.size + 1) [.int .u8 0, .bool false, .int .i64 0, .string ⟨#[]⟩, .bool false] 28 := HQ.only (Only.of_below hb1) (Nat.not_le.2 HQ.lt)
    have hbw1 : Below w.heap.size w w1 := hbW1.trans (hb1.mono hbW1.size)
    have hzw1 := hb1.size
    replace hb1 := Lib.hid hb1
    obtain ⟨W2, hW2⟩ : ∃ W2, W2 = w1.alloc (.cells #[.int .u8 (tl : Int), .bool nl, .int .i64 il, .string xl, .bool bl, .int .u8 (th : Int), .bool nh, .int .i64 ih, .string xh, .bool bh, .bool ex] 92) := ⟨_, rfl⟩
    replace HP : Has W2 (w.heap.size) [.int .u8 0, .bool false, .int .i64 0, .string ⟨#[]⟩, .bool false] 28 := by rw [hW2]; exact (HP.alloc _)
    replace HQ : Has W2 (w.heap.size + 1) [.int .u8 0, .bool false, .int .i64 0, .string ⟨#[]⟩, .bool false] 28 := by rw [hW2]; exact (HQ.alloc _)
    have HS : Has W2 (w1.heap.size) [.int .u8 (tl : Int), .bool nl, .int .i64 il, .string xl, .bool bl, .int .u8 (th : Int), .bool nh, .int .i64 ih, .string xh, .bool bh, .bool ex] 92 := by
      rw [hW2]; have h := Has.new (w1) [.int .u8 (tl : Int), .bool nl, .int .i64 il, .string xl, .bool bl, .int .u8 (th : Int), .bool nh, .int .i64 ih, .string xh, .bool bh, .bool ex] 92; (try simp only [World.size_alloc] at h); exact h
    have hbW2 : Below w.heap.size w W2 := by rw [hW2]; exact (hbw1.alloc (by have := hbw1.size; (try simp only [World.size_alloc]); omega) _)
    have hzW2 : W2.heap.size = w1.heap.size + 1 := by rw [hW2]; simp
    replace hW2 := Lib.hid hW2
    go_upto_region 5 with fail
    rw [show w1.alloc (.cells #[.int .u8 (tl : Int), .bool nl, .int .i64 il, .string xl, .bool bl, .int .u8 (th : Int), .bool nh, .int .i64 ih, .string xh, .bool bh, .bool ex] 92) = W2 from hW2.out.symm]
    have hlt0 : w.heap.size + 1 < w1.heap.size := by omega
    have cP0 := HP.cell (o := 0) rfl
    have cP1 := HP.cell (o := 1) rfl
    have cP2 := HP.cell (o := 2) rfl
    have cP3 := HP.cell (o := 3) rfl
    have cP4 := HP.cell (o := 4) rfl
    have cQ0 := HQ.cell (o := 0) rfl
    have cQ1 := HQ.cell (o := 1) rfl
    have cQ2 := HQ.cell (o := 2) rfl
    have cQ3 := HQ.cell (o := 3) rfl
    have cQ4 := HQ.cell (o := 4) rfl
    have cS0 := HS.cell (o := 0) rfl
    have cS1 := HS.cell (o := 1) rfl
    have cS2 := HS.cell (o := 2) rfl
    have cS3 := HS.cell (o := 3) rfl
    have cS4 := HS.cell (o := 4) rfl
    have cS5 := HS.cell (o := 5) rfl
    have cS6 := HS.cell (o := 6) rfl
    have cS7 := HS.cell (o := 7) rfl
    have cS8 := HS.cell (o := 8) rfl
    have cS9 := HS.cell (o := 9) rfl
    have cS10 := HS.cell (o := 10) rfl
    have fP0 := HP.free 0
    have fP1 := HP.free 1
    have fP2 := HP.free 2
    have fP3 := HP.free 3
    have fP4 := HP.free 4
    have fQ0 := HQ.free 0
    have fQ1 := HQ.free 1
    have fQ2 := HQ.free 2
    have fQ3 := HQ.free 3
    have fQ4 := HQ.free 4
    replace hzW1 := Lib.hid hzW1
    replace hzW2 := Lib.hid hzW2
    go_region
    replace hzW1 := hzW1.out
    replace hzW2 := hzW2.out
    obtain ⟨W3, hW3⟩ : ∃ W3, W3 = ((((W2.setCell ⟨w.heap.size, 0, none⟩ (.int .u8 (tl : Int))).setCell ⟨w.heap.size, 1, none⟩ (.bool nl)).setCell ⟨w.heap.size, 2, none⟩ (.int .i64 il)).setCell ⟨w.heap.size, 3, none⟩ (.string xl)).setCell ⟨w.heap.size, 4, none⟩ (.bool bl) := ⟨_, rfl⟩
    replace HQ : Has W3 (w.heap.size + 1) [.int .u8 0, .bool false, .int .i64 0, .string ⟨#[]⟩, .bool false] 28 := by rw [hW3]; exact (((((HQ.set_ne (a := ⟨w.heap.size, 0, none⟩) (by first | (simp; done) | (simp; omega) | omega) _).set_ne (a := ⟨w.heap.size, 1, none⟩) (by first | (simp; done) | (simp; omega) | omega) _).set_ne (a := ⟨w.heap.size, 2, none⟩) (by first | (simp; done) | (simp; omega) | omega) _).set_ne (a := ⟨w.heap.size, 3, none⟩) (by first | (simp; done) | (simp; omega) | omega) _).set_ne (a := ⟨w.heap.size, 4, none⟩) (by first | (simp; done) | (simp; omega) | omega) _)
    replace HS : Has W3 (w1.heap.size) [.int .u8 (tl : Int), .bool nl, .int .i64 il, .string xl, .bool bl, .int .u8 (th : Int), .bool nh, .int .i64 ih, .string xh, .bool bh, .bool ex] 92 := by rw [hW3]; exact (((((HS.set_ne (a := ⟨w.heap.size, 0, none⟩) (by first | (simp; done) | (simp; omega) | omega) _).set_ne (a := ⟨w.heap.size, 1, none⟩) (by first | (simp; done) | (simp; omega) | omega) _).set_ne (a := ⟨w.heap.size, 2, none⟩) (by first | (simp; done) | (simp; omega) | omega) _).set_ne (a := ⟨w.heap.size, 3, none⟩) (by first | (simp; done) | (simp; omega) | omega) _).set_ne (a := ⟨w.heap.size, 4, none⟩) (by first | (simp; done) | (simp; omega) | omega) _)
    replace HP : Has W3 (w.heap.size) [.int .u8 (tl : Int), .bool nl, .int .i64 il, .string xl, .bool bl] 28 := by rw [hW3]; exact (((((HP.set 0 (.int .u8 (tl : Int))).set 1 (.bool nl)).set 2 (.int .i64 il)).set 3 (.string xl)).set 4 (.bool bl))
    have hbW3 : Below w.heap.size w W3 := by rw [hW3]; exact (((((hbW2.setCell (p := ⟨w.heap.size, 0, none⟩) (by first | exact Nat.le_refl _ | (simp; done) | (simp; omega) | omega) _).setCell (p := ⟨w.heap.size, 1, none⟩) (by first | exact Nat.le_refl _ | (simp; done) | (simp; omega) | omega) _).setCell (p := ⟨w.heap.size, 2, none⟩) (by first | exact Nat.le_refl _ | (simp; done) | (simp; omega) | omega) _).setCell (p := ⟨w.heap.size, 3, none⟩) (by first | exact Nat.le_refl _ | (simp; done) | (simp; omega) | omega) _).setCell (p := ⟨w.heap.size, 4, none⟩) (by first | exact Nat.le_refl _ | (simp; done) | (simp; omega) | omega) _)
    have hzW3 : W3.heap.size = W2.heap.size := by rw [hW3]; simp
    replace hW3 := Lib.hid hW3
    obtain ⟨W4, hW4⟩ : ∃ W4, W4 = ((((W3.setCell ⟨w.heap.size + 1, 0, none⟩ (.int .u8 (th : Int))).setCell ⟨w.heap.size + 1, 1, none⟩ (.bool nh)).setCell ⟨w.heap.size + 1, 2, none⟩ (.int .i64 ih)).setCell ⟨w.heap.size + 1, 3, none⟩ (.string xh)).setCell ⟨w.heap.size + 1, 4, none⟩ (.bool bh) := ⟨_, rfl⟩
    replace HP : Has W4 (w.heap.size) [.int .u8 (tl : Int), .bool nl, .int .i64 il, .string xl, .bool bl] 28 := by rw [hW4]; exact (((((HP.set_ne (a := ⟨w.heap.size + 1, 0, none⟩) (by first | (simp; done) | (simp; omega) | omega) _).set_ne (a := ⟨w.heap.size + 1, 1, none⟩) (by first | (simp; done) | (simp; omega) | omega) _).set_ne (a := ⟨w.heap.size + 1, 2, none⟩) (by first | (simp; done) | (simp; omega) | omega) _).set_ne (a := ⟨w.heap.size + 1, 3, none⟩) (by first | (simp; done) | (simp; omega) | omega) _).set_ne (a := ⟨w.heap.size + 1, 4, none⟩) (by first | (simp; done) | (simp; omega) | omega) _)
    replace HS : Has W4 (w1.heap.size) [.int .u8 (tl : Int), .bool nl, .int .i64 il, .string xl, .bool bl, .int .u8 (th : Int), .bool nh, .int .i64 ih, .string xh, .bool bh, .bool ex] 92 := by rw [hW4]; exact (((((HS.set_ne (a := ⟨w.heap.size + 1, 0, none⟩) (by first | (simp; done) | (simp; omega) | omega) _).set_ne (a := ⟨w.heap.size + 1, 1, none⟩) (by first | (simp; done) | (simp; omega) | omega) _).set_ne (a := ⟨w.heap.size + 1, 2, none⟩) (by first | (simp; done) | (simp; omega) | omega) _).set_ne (a := ⟨w.heap.size + 1, 3, none⟩) (by first | (simp; done) | (simp; omega) | omega) _).set_ne (a := ⟨w.heap.size + 1, 4, none⟩) (by first | (simp; done) | (simp; omega) | omega) _)
    replace HQ : Has W4 (w.heap.size + 1) [.int .u8 (th : Int), .bool nh, .int .i64 ih, .string xh, .bool bh] 28 := by rw [hW4]; exact (((((HQ.set 0 (.int .u8 (th : Int))).set 1 (.bool nh)).set 2 (.int .i64 ih)).set 3 (.string xh)).set 4 (.bool bh))
    have hbW4 : Below w.heap.size w W4 := by rw [hW4]; exact (((((hbW3.setCell (p := ⟨w.heap.size + 1, 0, none⟩) (by first | exact Nat.le_refl _ | (simp; done) | (simp; omega) | omega) _).setCell (p := ⟨w.heap.size + 1, 1, none⟩) (by first | exact Nat.le_refl _ | (simp; done) | (simp; omega) | omega) _).setCell (p := ⟨w.heap.size + 1, 2, none⟩) (by first | exact Nat.le_refl _ | (simp; done) | (simp; omega) | omega) _).setCell (p := ⟨w.heap.size + 1, 3, none⟩) (by first | exact Nat.le_refl _ | (simp; done) | (simp; omega) | omega) _).setCell (p := ⟨w.heap.size + 1, 4, none⟩) (by first | exact Nat.le_refl _ | (simp; done) | (simp; omega) | omega) _)
    have hzW4 : W4.heap.size = W3.heap.size := by rw [hW4]; simp
    replace hW4 := Lib.hid hW4
    have hf : post (.returned (.tuple #[.agg #[.int .u8 (tl : Int), .bool nl, .int .i64 il, .string xl, .bool bl], .agg #[.int .u8 (th : Int), .bool nh, .int .i64 ih, .string xh, .bool bh], .bool ex])) W4.drew := by rw [← hpost.out]; skip; exact ⟨rfl, hbW4.drew⟩
    replace hf := Lib.hid hf
    have r0 := Lib.hid (HP.cell (o := 0) rfl)
    have r1 := Lib.hid (HP.cell (o := 1) rfl)
    have r2 := Lib.hid (HP.cell (o := 2) rfl)
    have r3 := Lib.hid (HP.cell (o := 3) rfl)
    have r4 := Lib.hid (HP.cell (o := 4) rfl)
    have s0 := Lib.hid (HQ.cell (o := 0) rfl)
    have s1 := Lib.hid (HQ.cell (o := 1) rfl)
    have s2 := Lib.hid (HQ.cell (o := 2) rfl)
    have s3 := Lib.hid (HQ.cell (o := 3) rfl)
    have s4 := Lib.hid (HQ.cell (o := 4) rfl)
    replace hzW1 := Lib.hid hzW1
    replace hzW2 := Lib.hid hzW2
    replace hzW3 := Lib.hid hzW3
    replace hzW4 := Lib.hid hzW4
    go_wp2_with fail
    rw [show ((((W2.setCell ⟨w.heap.size, 0, none⟩ (.int .u8 (tl : Int))).setCell ⟨w.heap.size, 1, none⟩ (.bool nl)).setCell ⟨w.heap.size, 2, none⟩ (.int .i64 il)).setCell ⟨w.heap.size, 3, none⟩ (.string xl)).setCell ⟨w.heap.size, 4, none⟩ (.bool bl) = W3 from hW3.out.symm]
    rw [show ((((W3.setCell ⟨w.heap.size + 1, 0, none⟩ (.int .u8 (th : Int))).setCell ⟨w.heap.size + 1, 1, none⟩ (.bool nh)).setCell ⟨w.heap.size + 1, 2, none⟩ (.int .i64 ih)).setCell ⟨w.heap.size + 1, 3, none⟩ (.string xh)).setCell ⟨w.heap.size + 1, 4, none⟩ (.bool bh) = W4 from hW4.out.symm]
    exact bodyPost_ret (v := .tuple #[.agg #[.int .u8 (tl : Int), .bool nl, .int .i64 il, .string xl, .bool bl], .agg #[.int .u8 (th : Int), .bool nh, .int .i64 ih, .string xh, .bool bh], .bool ex]) (by simp [results, Tryz.results10, go_sem, r0.out, r1.out, r2.out, r3.out, r4.out, s0.out, s1.out, s2.out, s3.out, s4.out]) rfl hf.out
end Go.Proofs.YtgnoikfmhncbmaaGreatDoor

namespace Go.Proofs.YtgnoikfmhncbmaaGreatDoor
open Go.RowKit
/-- Five cells of a box. -/
def put5 (w : World) (b : Nat) (v0 v1 v2 v3 v4 : Value) : World := ((((w.setCell ⟨b, 0, none⟩ v0).setCell ⟨b, 1, none⟩ v1).setCell ⟨b, 2, none⟩ v2).setCell ⟨b, 3, none⟩ v3).setCell ⟨b, 4, none⟩ v4
theorem put5_only (w : World) (b : Nat) (v0 v1 v2 v3 v4 : Value) : Only (fun k => k = b) w (put5 w b v0 v1 v2 v3 v4) :=
  (((((Only.refl (fun k => k = b) w).setCell (a := ⟨b, 0, none⟩) (fun _ => rfl) _).setCell (a := ⟨b, 1, none⟩) (fun _ => rfl) _).setCell (a := ⟨b, 2, none⟩) (fun _ => rfl) _).setCell (a := ⟨b, 3, none⟩) (fun _ => rfl) _).setCell (a := ⟨b, 4, none⟩) (fun _ => rfl) _
theorem put5_has {w : World} {b : Nat} {T : TypeId} {u0 u1 u2 u3 u4 : Value} (h : Has w b [u0, u1, u2, u3, u4] T) (v0 v1 v2 v3 v4 : Value) : Has (put5 w b v0 v1 v2 v3 v4) b [v0, v1, v2, v3, v4] T :=
  ((((h.set 0 v0).set 1 v1).set 2 v2).set 3 v3).set 4 v4
/-- Five values. -/
structure V5 where
  a : Value
  b : Value
  c : Value
  d : Value
  e : Value
def V5.l (v : V5) : List Value := [v.a, v.b, v.c, v.d, v.e]
structure CS (w0 : World) (x : Nat → Option Value) (b4 b5 : Nat) (o4 o5 n4 n5 : V5) (i4 i5 : Nat) (T : TypeId) (H : Nat → Option Value) (w : World) : Prop where
  v : ∀ s u, H s = some u → x s = some u
  h4 : Has w b4 (if (H i4).isSome = true then n4.l else o4.l) T
  h5 : Has w b5 (if (H i5).isSome = true then n5.l else o5.l) T
  o : Only (fun k => k = b4 ∨ k = b5) w0 w
variable {w0 : World} {x : Nat → Option Value} {b4 b5 : Nat} {o4 o5 n4 n5 : V5} {i4 i5 : Nat} {T : TypeId} {H : Nat → Option Value} {w w' : World}
theorem CS.start (h4 : Has w0 b4 o4.l T) (h5 : Has w0 b5 o5.l T) : CS w0 x b4 b5 o4 o5 n4 n5 i4 i5 T (fun _ => none) w0.drew :=
  ⟨fun s u h => (by cases h), h4.drew, h5.drew, (Only.refl _ _).drew⟩
theorem CS.call (h : CS w0 x b4 b5 o4 o5 n4 n5 i4 i5 T H w) {s : Nat} {u : Value} (h4 : s ≠ i4) (h5 : s ≠ i5) (hx : x s = some u) (hb : Below w.heap.size w w') : CS w0 x b4 b5 o4 o5 n4 n5 i4 i5 T (setP H s u) w' := by
  have e4 : setP H s u i4 = H i4 := if_neg (fun e => h4 e.symm)
  have e5 : setP H s u i5 = H i5 := if_neg (fun e => h5 e.symm)
  refine ⟨fun s' u' h' => ?_, by rw [e4]; exact h.h4.only (Only.of_below hb) (Nat.not_le.2 h.h4.lt), by rw [e5]; exact h.h5.only (Only.of_below hb) (Nat.not_le.2 h.h5.lt), h.o.trans ((Only.of_below hb).mono (fun k hk hs => absurd hs (Nat.not_le.2 hk)))⟩
  unfold setP at h'
  split at h'
  · rename_i e; cases h'; rw [e]; exact hx
  · exact h.v s' u' h'
theorem CS.sto4 (h : CS w0 x b4 b5 o4 o5 n4 n5 i4 i5 T H w) (hb : b4 ≠ b5) (hi : i4 ≠ i5) (hx : x i4 = some undef) : CS w0 x b4 b5 o4 o5 n4 n5 i4 i5 T (setP H i4 undef) (put5 w b4 n4.a n4.b n4.c n4.d n4.e) := by
  have e4 : setP H i4 undef i4 = some undef := if_pos rfl
  have e5 : setP H i4 undef i5 = H i5 := if_neg (fun e => hi e.symm)
  have ho := put5_only w b4 n4.a n4.b n4.c n4.d n4.e
  refine ⟨fun s' u' h' => ?_, ?_, by rw [e5]; exact h.h5.only ho (fun e => hb e.symm), h.o.trans (ho.mono (fun k _ e => .inl e))⟩
  · unfold setP at h'
    split at h'
    · rename_i e; cases h'; rw [e]; exact hx
    · exact h.v s' u' h'
  · rw [e4]
    simp only [Option.isSome_some, if_true]
    have h4 := h.h4
    split at h4
    · exact put5_has h4 _ _ _ _ _
    · exact put5_has h4 _ _ _ _ _
theorem CS.sto5 (h : CS w0 x b4 b5 o4 o5 n4 n5 i4 i5 T H w) (hb : b4 ≠ b5) (hi : i4 ≠ i5) (hx : x i5 = some undef) : CS w0 x b4 b5 o4 o5 n4 n5 i4 i5 T (setP H i5 undef) (put5 w b5 n5.a n5.b n5.c n5.d n5.e) := by
  have e5 : setP H i5 undef i5 = some undef := if_pos rfl
  have e4 : setP H i5 undef i4 = H i4 := if_neg hi
  have ho := put5_only w b5 n5.a n5.b n5.c n5.d n5.e
  refine ⟨fun s' u' h' => ?_, by rw [e4]; exact h.h4.only ho hb, ?_, h.o.trans (ho.mono (fun k _ e => .inr e))⟩
  · unfold setP at h'
    split at h'
    · rename_i e; cases h'; rw [e]; exact hx
    · exact h.v s' u' h'
  · rw [e5]
    simp only [Option.isSome_some, if_true]
    have h5 := h.h5
    split at h5
    · exact put5_has h5 _ _ _ _ _
    · exact put5_has h5 _ _ _ _ _
theorem CS.ex {m : Nat} (hb : b4 ≠ b5) (hi : i4 ≠ i5) (hx4 : x i4 = some undef) (hx5 : x i5 = some undef) (hx : ∀ s, s < m → ∃ u, x s = some u) (H : Nat → Option Value) (w : World) (h : CS w0 x b4 b5 o4 o5 n4 n5 i4 i5 T H w) (hn : ∃ s, s < m ∧ H s = none) :
    ∃ s v w', s < m ∧ H s = none ∧ CS w0 x b4 b5 o4 o5 n4 n5 i4 i5 T (setP H s v) w' := by
  obtain ⟨s, hs, he⟩ := hn
  by_cases e4 : s = i4
  · subst e4; exact ⟨_, _, _, hs, he, h.sto4 hb hi hx4⟩
  · by_cases e5 : s = i5
    · subst e5; exact ⟨_, _, _, hs, he, h.sto5 hb hi hx5⟩
    · obtain ⟨u, hu⟩ := hx s hs
      exact ⟨s, u, w, hs, he, h.call e4 e5 hu (Below.refl _ _)⟩
theorem CS.at {Hf : Nat → Value} {nds : List Nat} : clsP (CS w0 x b4 b5 o4 o5 n4 n5 i4 i5 T) Hf nds w → Only (fun k => k = b4 ∨ k = b5) w0 w := fun ⟨_, _, _, h⟩ => h.o
theorem CS.done {Hf : Nat → Value} {m : Nat} (h : CS w0 x b4 b5 o4 o5 n4 n5 i4 i5 T (fullP m Hf) w) (h4 : i4 < m) (h5 : i5 < m) : (∀ s, s < m → ∀ u, x s = some u → Hf s = u) ∧ Has w b4 n4.l T ∧ Has w b5 n5.l T ∧ Only (fun k => k = b4 ∨ k = b5) w0 w := by
  have f : ∀ s, s < m → fullP m Hf s = some (Hf s) := fun s hs => if_pos hs
  have g4 := h.h4
  have g5 := h.h5
  rw [f i4 h4] at g4
  rw [f i5 h5] at g5
  refine ⟨fun s hs u hu => ?_, by simpa using g4, by simpa using g5, h.o⟩
  have := h.v s _ (f s hs)
  rw [hu] at this
  exact (Option.some.inj this).symm
end Go.Proofs.YtgnoikfmhncbmaaGreatDoor
