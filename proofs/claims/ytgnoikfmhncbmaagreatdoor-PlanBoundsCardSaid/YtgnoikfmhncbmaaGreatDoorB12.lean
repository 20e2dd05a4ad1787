/- Walks: Bounds of the reference. -/
import Derived.Test.YtgnoikfmhncbmaaGreatDoorB11
set_option linter.unusedVariables false
set_option linter.unusedSimpArgs false
namespace Go.Proofs.YtgnoikfmhncbmaaGreatDoor
open Go.RowKit
def bndRV (s : Sp) : Value := .tuple #[s.lo.rval, s.hi.rval, .bool s.ex]
set_option maxHeartbeats 16000000 in
set_option maxRecDepth 100000 in
theorem rbounds_any (col : ByteArray) : ∀ (t : AT), t.Fit → ∀ w : World, t.RAt w → Calls Tryz.prog 12 #[t.ptr, .string col] w (RPost w (bndRV (bndP col t))) := by
  have hno : ∀ w : World, Calls Tryz.prog 30 #[] w (RPost w (.agg #[.int .i64 0, .bool true, .int .i64 0, .string ⟨#[]⟩, .bool false])) := none_any
  replace hno := Lib.hid hno
  intro t
  induction t with
  | nil =>
    intro _ w _
    generalize hpost : RPost w (bndRV (bndP col .nil)) = post
    replace hpost := Lib.hid hpost
    unfold AT.ptr
    obtain ⟨W1, hW1⟩ : ∃ W1, W1 = (w.alloc (.cells #[.int .i64 0, .bool false, .int .i64 0, .string ⟨#[]⟩, .bool false] 33)).alloc (.cells #[.int .i64 0, .bool false, .int .i64 0, .string ⟨#[]⟩, .bool false] 33) := ⟨_, rfl⟩
    have HP : Has W1 (w.heap.size) [.int .i64 0, .bool false, .int .i64 0, .string ⟨#[]⟩, .bool false] 33 := by
      rw [hW1]; have h := Has.new (w) [.int .i64 0, .bool false, .int .i64 0, .string ⟨#[]⟩, .bool false] 33; (try simp only [World.size_alloc] at h); exact (h.alloc _)
    have HQ : Has W1 (w.heap.size + 1) [.int .i64 0, .bool false, .int .i64 0, .string ⟨#[]⟩, .bool false] 33 := by
      rw [hW1]; have h := Has.new ((w.alloc (.cells #[.int .i64 0, .bool false, .int .i64 0, .string ⟨#[]⟩, .bool false] 33))) [.int .i64 0, .bool false, .int .i64 0, .string ⟨#[]⟩, .bool false] 33; (try simp only [World.size_alloc] at h); exact h
    have hbW1 : Below w.heap.size w W1 := by rw [hW1]; exact (((Below.refl _ _).alloc (by first | exact Nat.le_refl _ | (simp only [World.size_alloc]; omega)) _).alloc (by first | exact Nat.le_refl _ | (simp only [World.size_alloc]; omega)) _)
    have hzW1 : W1.heap.size = w.heap.size + 2 := by rw [hW1]; simp
    replace hW1 := Lib.hid hW1
    go_enter Tryz.func12, Tryz.ntmps12
    go_upto_region 2 with fail
    rw [show (w.alloc (.cells #[.int .i64 0, .bool false, .int .i64 0, .string ⟨#[]⟩, .bool false] 33)).alloc (.cells #[.int .i64 0, .bool false, .int .i64 0, .string ⟨#[]⟩, .bool false] 33) = W1 from hW1.out.symm]
    replace hzW1 := Lib.hid hzW1
    go_wp2_with fail
    refine (hno.out _).mono ?_
    rintro e wn1 ⟨rfl, hn1⟩
    replace hzW1 := hzW1.out
    replace HP : Has wn1 (w.heap.size) [.int .i64 0, .bool false, .int .i64 0, .string ⟨#[]⟩, .bool false] 33 := HP.only (Only.of_below hn1) (Nat.not_le.2 HP.lt)
    replace HQ : Has wn1 (w.heap.size + 1) [.int .i64 0, .bool false, .int .i64 0, .string ⟨#[]⟩, .bool false] 33 := HQ.only (Only.of_below hn1) (Nat.not_le.2 HQ.lt)
    have hbwn1 : Below w.heap.size w wn1 := hbW1.trans (hn1.mono hbW1.size)
    have hzwn1 := hn1.size
    replace hn1 := Lib.hid hn1
    replace hzW1 := Lib.hid hzW1
    go_wp2_with fail
    refine (hno.out _).mono ?_
    rintro e wn2 ⟨rfl, hn2⟩
    replace hzW1 := hzW1.out
    replace HP : Has wn2 (w.heap.size) [.int .i64 0, .bool false, .int .i64 0, .string ⟨#[]⟩, .bool false] 33 := HP.only (Only.of_below hn2) (Nat.not_le.2 HP.lt)
    replace HQ : Has wn2 (w.heap.size + 1) [.int .i64 0, .bool false, .int .i64 0, .string ⟨#[]⟩, .bool false] 33 := HQ.only (Only.of_below hn2) (Nat.not_le.2 HQ.lt)
    have hbwn2 : Below w.heap.size w wn2 := hbwn1.trans (hn2.mono hbwn1.size)
    have hzwn2 := hn2.size
    replace hn2 := Lib.hid hn2
    have cP0 := HP.cell (o := 0) rfl
    have cP1 := HP.cell (o := 1) rfl
    have cP2 := HP.cell (o := 2) rfl
    have cP3 := HP.cell (o := 3) rfl
    have cP4 := HP.cell (o := 4) rfl
    have cQ0 := HQ.cell (o := 0) rfl
    have cQ1 := HQ.cell (o := 1) rfl
    have cQ2 := HQ.cell (o := 2) rfl
    have cQ3 := HQ.cell (o := 3) rfl
    have cQ4 := HQ.cell (o := 4) rfl
    have fP0 := HP.free 0
    have fP1 := HP.free 1
    have fP2 := HP.free 2
    have fP3 := HP.free 3
    have fP4 := HP.free 4
    have fQ0 := HQ.free 0
    have fQ1 := HQ.free 1
    have fQ2 := HQ.free 2
    have fQ3 := HQ.free 3
    have fQ4 := HQ.free 4
    obtain ⟨W2, hW2⟩ : ∃ W2, W2 = ((((wn2.setCell ⟨w.heap.size, 0, none⟩ (.int .i64 0)).setCell ⟨w.heap.size, 1, none⟩ (.bool true)).setCell ⟨w.heap.size, 2, none⟩ (.int .i64 0)).setCell ⟨w.heap.size, 3, none⟩ (.string ⟨#[]⟩)).setCell ⟨w.heap.size, 4, none⟩ (.bool false) := ⟨_, rfl⟩
    replace HQ : Has W2 (w.heap.size + 1) [.int .i64 0, .bool false, .int .i64 0, .string ⟨#[]⟩, .bool false] 33 := by rw [hW2]; exact (((((HQ.set_ne (a := ⟨w.heap.size, 0, none⟩) (by first | (simp; done) | (simp; omega) | omega) _).set_ne (a := ⟨w.heap.size, 1, none⟩) (by first | (simp; done) | (simp; omega) | omega) _).set_ne (a := ⟨w.heap.size, 2, none⟩) (by first | (simp; done) | (simp; omega) | omega) _).set_ne (a := ⟨w.heap.size, 3, none⟩) (by first | (simp; done) | (simp; omega) | omega) _).set_ne (a := ⟨w.heap.size, 4, none⟩) (by first | (simp; done) | (simp; omega) | omega) _)
    replace HP : Has W2 (w.heap.size) [.int .i64 0, .bool true, .int .i64 0, .string ⟨#[]⟩, .bool false] 33 := by rw [hW2]; exact (((((HP.set 0 (.int .i64 0)).set 1 (.bool true)).set 2 (.int .i64 0)).set 3 (.string ⟨#[]⟩)).set 4 (.bool false))
    have hbW2 : Below w.heap.size w W2 := by rw [hW2]; exact (((((hbwn2.setCell (p := ⟨w.heap.size, 0, none⟩) (by first | exact Nat.le_refl _ | (simp; done) | (simp; omega) | omega) _).setCell (p := ⟨w.heap.size, 1, none⟩) (by first | exact Nat.le_refl _ | (simp; done) | (simp; omega) | omega) _).setCell (p := ⟨w.heap.size, 2, none⟩) (by first | exact Nat.le_refl _ | (simp; done) | (simp; omega) | omega) _).setCell (p := ⟨w.heap.size, 3, none⟩) (by first | exact Nat.le_refl _ | (simp; done) | (simp; omega) | omega) _).setCell (p := ⟨w.heap.size, 4, none⟩) (by first | exact Nat.le_refl _ | (simp; done) | (simp; omega) | omega) _)
    have hzW2 : W2.heap.size = wn2.heap.size := by rw [hW2]; simp
    replace hW2 := Lib.hid hW2
    obtain ⟨W3, hW3⟩ : ∃ W3, W3 = ((((W2.setCell ⟨w.heap.size + 1, 0, none⟩ (.int .i64 0)).setCell ⟨w.heap.size + 1, 1, none⟩ (.bool true)).setCell ⟨w.heap.size + 1, 2, none⟩ (.int .i64 0)).setCell ⟨w.heap.size + 1, 3, none⟩ (.string ⟨#[]⟩)).setCell ⟨w.heap.size + 1, 4, none⟩ (.bool false) := ⟨_, rfl⟩
    replace HP : Has W3 (w.heap.size) [.int .i64 0, .bool true, .int .i64 0, .string ⟨#[]⟩, .bool false] 33 := by rw [hW3]; exact (((((HP.set_ne (a := ⟨w.heap.size + 1, 0, none⟩) (by first | (simp; done) | (simp; omega) | omega) _).set_ne (a := ⟨w.heap.size + 1, 1, none⟩) (by first | (simp; done) | (simp; omega) | omega) _).set_ne (a := ⟨w.heap.size + 1, 2, none⟩) (by first | (simp; done) | (simp; omega) | omega) _).set_ne (a := ⟨w.heap.size + 1, 3, none⟩) (by first | (simp; done) | (simp; omega) | omega) _).set_ne (a := ⟨w.heap.size + 1, 4, none⟩) (by first | (simp; done) | (simp; omega) | omega) _)
    replace HQ : Has W3 (w.heap.size + 1) [.int .i64 0, .bool true, .int .i64 0, .string ⟨#[]⟩, .bool false] 33 := by rw [hW3]; exact (((((HQ.set 0 (.int .i64 0)).set 1 (.bool true)).set 2 (.int .i64 0)).set 3 (.string ⟨#[]⟩)).set 4 (.bool false))
    have hbW3 : Below w.heap.size w W3 := by rw [hW3]; exact (((((hbW2.setCell (p := ⟨w.heap.size + 1, 0, none⟩) (by first | exact Nat.le_refl _ | (simp; done) | (simp; omega) | omega) _).setCell (p := ⟨w.heap.size + 1, 1, none⟩) (by first | exact Nat.le_refl _ | (simp; done) | (simp; omega) | omega) _).setCell (p := ⟨w.heap.size + 1, 2, none⟩) (by first | exact Nat.le_refl _ | (simp; done) | (simp; omega) | omega) _).setCell (p := ⟨w.heap.size + 1, 3, none⟩) (by first | exact Nat.le_refl _ | (simp; done) | (simp; omega) | omega) _).setCell (p := ⟨w.heap.size + 1, 4, none⟩) (by first | exact Nat.le_refl _ | (simp; done) | (simp; omega) | omega) _)
    have hzW3 : W3.heap.size = W2.heap.size := by rw [hW3]; simp
    replace hW3 := Lib.hid hW3
    have hf : post (.returned (.tuple #[.agg #[.int .i64 0, .bool true, .int .i64 0, .string ⟨#[]⟩, .bool false], .agg #[.int .i64 0, .bool true, .int .i64 0, .string ⟨#[]⟩, .bool false], .bool true])) W3 := by rw [← hpost.out]; exact ⟨rfl, hbW3⟩
    replace hf := Lib.hid hf
    have r0 := Lib.hid (HP.cell (o := 0) rfl)
    have r1 := Lib.hid (HP.cell (o := 1) rfl)
    have r2 := Lib.hid (HP.cell (o := 2) rfl)
    have r3 := Lib.hid (HP.cell (o := 3) rfl)
    have r4 := Lib.hid (HP.cell (o := 4) rfl)
    have s0 := Lib.hid (HQ.cell (o := 0) rfl)
    have s1 := Lib.hid (HQ.cell (o := 1) rfl)
    have s2 := Lib.hid (HQ.cell (o := 2) rfl)
    have s3 := Lib.hid (HQ.cell (o := 3) rfl)
    have s4 := Lib.hid (HQ.cell (o := 4) rfl)
    replace hzW1 := Lib.hid hzW1
    replace hzW2 := Lib.hid hzW2
    replace hzW3 := Lib.hid hzW3
    go_wp2_with fail
    rw [show ((((wn2.setCell ⟨w.heap.size, 0, none⟩ (.int .i64 0)).setCell ⟨w.heap.size, 1, none⟩ (.bool true)).setCell ⟨w.heap.size, 2, none⟩ (.int .i64 0)).setCell ⟨w.heap.size, 3, none⟩ (.string ⟨#[]⟩)).setCell ⟨w.heap.size, 4, none⟩ (.bool false) = W2 from hW2.out.symm]
    rw [show ((((W2.setCell ⟨w.heap.size + 1, 0, none⟩ (.int .i64 0)).setCell ⟨w.heap.size + 1, 1, none⟩ (.bool true)).setCell ⟨w.heap.size + 1, 2, none⟩ (.int .i64 0)).setCell ⟨w.heap.size + 1, 3, none⟩ (.string ⟨#[]⟩)).setCell ⟨w.heap.size + 1, 4, none⟩ (.bool false) = W3 from hW3.out.symm]
    exact bodyPost_ret (v := .tuple #[.agg #[.int .i64 0, .bool true, .int .i64 0, .string ⟨#[]⟩, .bool false], .agg #[.int .i64 0, .bool true, .int .i64 0, .string ⟨#[]⟩, .bool false], .bool true]) (by simp [results, Tryz.results12, go_sem, r0.out, r1.out, r2.out, r3.out, r4.out, s0.out, s1.out, s2.out, s3.out, s4.out]) rfl hf.out
  | node b op cc v l r ihl ihr =>
    intro hFt w HE0
    obtain ⟨HE, hLt, hRt⟩ : Has w b (coCells op l.ptr r.ptr cc v) 97 ∧ l.RAt w ∧ r.RAt w := HE0
    have hlt := HE.lt
    obtain ⟨fo, fc, ft, fx, fl, fr⟩ := hFt
    have ihl := ihl fl
    have ihr := ihr fr
    generalize hpost : RPost w (bndRV (bndP col (.node b op cc v l r))) = post
    replace hpost := Lib.hid hpost
    have hpr : (AT.node b op cc v l r).ptr = .pointer (some ⟨b, 0, none⟩) := rfl
    rw [hpr]
    clear hpr
    obtain ⟨tv, nv, iv, xv, bv⟩ := v
    unfold coCells at HE
    dsimp only at HE ft fx
    have e1 : ((op : Int) == 1) = decide (op = 1) := by rw [Bool.eq_iff_iff]; simp; omega
    have e2 : ((op : Int) == 2) = decide (op = 2) := by rw [Bool.eq_iff_iff]; simp; omega
    have hp : pairB op l r = ((decide (op = 1) || decide (op = 2)) && !l.isNil && !r.isNil) := rfl
    have hl : (l.isNil = true ∧ l.ptr = .pointer none) ∨ (l.isNil = false ∧ ∃ b, l.ptr = .pointer (some ⟨b, 0, none⟩)) := by
      cases hn : l.isNil
      · exact .inr ⟨rfl, ptr_some hn⟩
      · exact .inl ⟨rfl, ptr_nil hn⟩
    have hr : (r.isNil = true ∧ r.ptr = .pointer none) ∨ (r.isNil = false ∧ ∃ b, r.ptr = .pointer (some ⟨b, 0, none⟩)) := by
      cases hn : r.isNil
      · exact .inr ⟨rfl, ptr_some hn⟩
      · exact .inl ⟨rfl, ptr_nil hn⟩
    replace e1 := Lib.hid e1
    replace e2 := Lib.hid e2
    replace hp := Lib.hid hp
    obtain ⟨W1, hW1⟩ : ∃ W1, W1 = (w.alloc (.cells #[.int .i64 0, .bool false, .int .i64 0, .string ⟨#[]⟩, .bool false] 33)).alloc (.cells #[.int .i64 0, .bool false, .int .i64 0, .string ⟨#[]⟩, .bool false] 33) := ⟨_, rfl⟩
    replace HE : Has W1 (b) [.int .i64 (op : Int), l.ptr, r.ptr, .string cc, .int .i64 (tv : Int), .bool nv, .int .i64 iv, .string xv, .bool bv] 97 := by rw [hW1]; exact ((HE.alloc _).alloc _)
    have HP : Has W1 (w.heap.size) [.int .i64 0, .bool false, .int .i64 0, .string ⟨#[]⟩, .bool false] 33 := by
      rw [hW1]; have h := Has.new (w) [.int .i64 0, .bool false, .int .i64 0, .string ⟨#[]⟩, .bool false] 33; (try simp only [World.size_alloc] at h); exact (h.alloc _)
    have HQ : Has W1 (w.heap.size + 1) [.int .i64 0, .bool false, .int .i64 0, .string ⟨#[]⟩, .bool false] 33 := by
      rw [hW1]; have h := Has.new ((w.alloc (.cells #[.int .i64 0, .bool false, .int .i64 0, .string ⟨#[]⟩, .bool false] 33))) [.int .i64 0, .bool false, .int .i64 0, .string ⟨#[]⟩, .bool false] 33; (try simp only [World.size_alloc] at h); exact h
    have hbW1 : Below w.heap.size w W1 := by rw [hW1]; exact (((Below.refl _ _).alloc (by first | exact Nat.le_refl _ | (simp only [World.size_alloc]; omega)) _).alloc (by first | exact Nat.le_refl _ | (simp only [World.size_alloc]; omega)) _)
    have hzW1 : W1.heap.size = w.heap.size + 2 := by rw [hW1]; simp
    replace hW1 := Lib.hid hW1
    go_enter Tryz.func12, Tryz.ntmps12
    go_upto_region 3 with fail
    rw [show (w.alloc (.cells #[.int .i64 0, .bool false, .int .i64 0, .string ⟨#[]⟩, .bool false] 33)).alloc (.cells #[.int .i64 0, .bool false, .int .i64 0, .string ⟨#[]⟩, .bool false] 33) = W1 from hW1.out.symm]
    replace hzW1 := Lib.hid hzW1
    go_cut [42] (fun p wx => p = .bool (pairB op l r) ∧ W1 = wx)
    case first =>
      replace hzW1 := hzW1.out
      have cE0 := HE.cell (o := 0) rfl
      have cE1 := HE.cell (o := 1) rfl
      have cE2 := HE.cell (o := 2) rfl
      have cE3 := HE.cell (o := 3) rfl
      have cE4 := HE.cell (o := 4) rfl
      have cE5 := HE.cell (o := 5) rfl
      have cE6 := HE.cell (o := 6) rfl
      have cE7 := HE.cell (o := 7) rfl
      have cE8 := HE.cell (o := 8) rfl
      replace hzW1 := Lib.hid hzW1
      generalize pairB op l r = rs at *
      have e1 := e1.out
      have e2 := e2.out
      have hp := hp.out
      generalize decide (op = 1) = o1 at *
      generalize decide (op = 2) = o2 at *
      cases o1 <;> cases o2
      all_goals
        rcases hl with ⟨hl1, hl2⟩ | ⟨hl1, bl, hl2⟩ <;> rcases hr with ⟨hr1, hr2⟩ | ⟨hr1, br, hr2⟩
        all_goals
          rw [hl2] at cE1
          rw [hr2] at cE2
          rw [hl1, hr1] at hp
          simp only [Bool.or_true, Bool.true_or, Bool.or_self, Bool.not_true, Bool.not_false, Bool.and_true, Bool.and_false, Bool.false_and, Bool.true_and, Bool.and_self, Bool.or_false, Bool.false_or] at hp
          subst hp
          clear hl1 hl2 hr1 hr2
          go_wp2_with fail
          go_meet
          exact ⟨rfl, rfl⟩
    case rest =>
      obtain ⟨rfl, rfl⟩ := hcut
      clear hl hr
      replace hzW1 := hzW1.out
      by_cases hpair : pairB op l r = true
      · rw [hpair]
        have hpk := hpair
        unfold pairB at hpk
        simp only [Bool.and_eq_true, Bool.not_eq_true'] at hpk
        obtain ⟨bl, hbl⟩ := ptr_some hpk.1.2
        obtain ⟨br, hbr⟩ := ptr_some hpk.2
        have hbdl := bndP.bd col fl
        have hbdr := bndP.bd col fr
        have ho12 : op = 1 ∨ op = 2 := by simpa using hpk.1.1
        have hval : bndP col (.node b op cc ⟨tv, nv, iv, xv, bv⟩ l r) = if op = 1 then bothP (bndP col l) (bndP col r) else eitherP (bndP col l) (bndP col r) := by rw [bndP.eq_2, if_pos hpair]
        rw [hval] at hpost
        have hL1 := ihl W1 (hLt.below hbW1)
        have hR1 : ∀ wx, Below w.heap.size w wx → Calls Tryz.prog 12 #[r.ptr, .string col] wx (RPost wx (bndRV (bndP col r))) := fun wx hb => ihr wx (hRt.below hb)
        generalize bndP col l = sl at *
        generalize bndP col r = sr at *
        obtain ⟨⟨ta, na, ia, xa, ba⟩, ⟨tb, nb, ib, xb, bb⟩, ea⟩ := sl
        obtain ⟨⟨tc, nc, ic, xc, bc⟩, ⟨tk, nk, ik, xk, bk⟩, ed⟩ := sr
        unfold bndRV RV.rval at hL1 hR1
        dsimp only at hL1 hR1
        rw [hbl] at hL1
        rw [hbr] at hR1
        obtain ⟨⟨_, ha2, _⟩, ⟨_, hb2, _⟩⟩ := id hbdl
        obtain ⟨⟨_, hc2, _⟩, ⟨_, hd2, _⟩⟩ := id hbdr
        dsimp only at ha2 hb2 hc2 hd2
        replace hL1 := Lib.hid hL1
        replace hR1 := Lib.hid hR1
        replace hval := Lib.hid hval
        replace hpair := Lib.hid hpair
        replace hpk := Lib.hid hpk
        replace hbdl := Lib.hid hbdl
        replace hbdr := Lib.hid hbdr
        clear ihl ihr hLt hRt
        have cE0 := HE.cell (o := 0) rfl
        have cE1 := HE.cell (o := 1) rfl
        have cE2 := HE.cell (o := 2) rfl
        have cE3 := HE.cell (o := 3) rfl
        have cE4 := HE.cell (o := 4) rfl
        have cE5 := HE.cell (o := 5) rfl
        have cE6 := HE.cell (o := 6) rfl
        have cE7 := HE.cell (o := 7) rfl
        have cE8 := HE.cell (o := 8) rfl
        rw [hbl] at cE1
        replace hbl := Lib.hid hbl
        replace hzW1 := Lib.hid hzW1
        go_wp2_with fail
        refine hL1.out.mono ?_
        rintro e w1 ⟨rfl, hb1⟩
        clear cE2
        replace hzW1 := hzW1.out
        replace HE : Has w1 (b) [.int .i64 (op : Int), l.ptr, r.ptr, .string cc, .int .i64 (tv : Int), .bool nv, .int .i64 iv, .string xv, .bool bv] 97 := HE.only (Only.of_below hb1) (Nat.not_le.2 HE.lt)
        replace HP : Has w1 (w.heap.size) [.int .i64 0, .bool false, .int .i64 0, .string ⟨#[]⟩, .bool false] 33 := HP.only (Only.of_below hb1) (Nat.not_le.2 HP.lt)
        replace HQ : Has w1 (w.heap.size + 1) [.int .i64 0, .bool false, .int .i64 0, .string ⟨#[]⟩, .bool false] 33 := HQ.only (Only.of_below hb1) (Nat.not_le.2 HQ.lt)
        have hbw1 : Below w.heap.size w w1 := hbW1.trans (hb1.mono hbW1.size)
        have hzw1 := hb1.size
        replace hb1 := Lib.hid hb1
        obtain ⟨W2, hW2⟩ : ∃ W2, W2 = (w1.alloc (.cells #[.int .i64 (ta : Int), .bool na, .int .i64 ia, .string xa, .bool ba] 33)).alloc (.cells #[.int .i64 (tb : Int), .bool nb, .int .i64 ib, .string xb, .bool bb] 33) := ⟨_, rfl⟩
        replace HE : Has W2 (b) [.int .i64 (op : Int), l.ptr, r.ptr, .string cc, .int .i64 (tv : Int), .bool nv, .int .i64 iv, .string xv, .bool bv] 97 := by rw [hW2]; exact ((HE.alloc _).alloc _)
        replace HP : Has W2 (w.heap.size) [.int .i64 0, .bool false, .int .i64 0, .string ⟨#[]⟩, .bool false] 33 := by rw [hW2]; exact ((HP.alloc _).alloc _)
        replace HQ : Has W2 (w.heap.size + 1) [.int .i64 0, .bool false, .int .i64 0, .string ⟨#[]⟩, .bool false] 33 := by rw [hW2]; exact ((HQ.alloc _).alloc _)
        have HA : Has W2 (w1.heap.size) [.int .i64 (ta : Int), .bool na, .int .i64 ia, .string xa, .bool ba] 33 := by
          rw [hW2]; have h := Has.new (w1) [.int .i64 (ta : Int), .bool na, .int .i64 ia, .string xa, .bool ba] 33; (try simp only [World.size_alloc] at h); exact (h.alloc _)
        have HB : Has W2 (w1.heap.size + 1) [.int .i64 (tb : Int), .bool nb, .int .i64 ib, .string xb, .bool bb] 33 := by
          rw [hW2]; have h := Has.new ((w1.alloc (.cells #[.int .i64 (ta : Int), .bool na, .int .i64 ia, .string xa, .bool ba] 33))) [.int .i64 (tb : Int), .bool nb, .int .i64 ib, .string xb, .bool bb] 33; (try simp only [World.size_alloc] at h); exact h
        have hbW2 : Below w.heap.size w W2 := by rw [hW2]; exact ((hbw1.alloc (by have := hbw1.size; (try simp only [World.size_alloc]); omega) _).alloc (by have := hbw1.size; (try simp only [World.size_alloc]); omega) _)
        have hzW2 : W2.heap.size = w1.heap.size + 2 := by rw [hW2]; simp
        replace hW2 := Lib.hid hW2
        go_upto_region 5 with fail
        rw [show (w1.alloc (.cells #[.int .i64 (ta : Int), .bool na, .int .i64 ia, .string xa, .bool ba] 33)).alloc (.cells #[.int .i64 (tb : Int), .bool nb, .int .i64 ib, .string xb, .bool bb] 33) = W2 from hW2.out.symm]
        clear cE0 cE1 cE3 cE4 cE5 cE6 cE7 cE8
        have cE0 := HE.cell (o := 0) rfl
        have cE1 := HE.cell (o := 1) rfl
        have cE2 := HE.cell (o := 2) rfl
        have cE3 := HE.cell (o := 3) rfl
        have cE4 := HE.cell (o := 4) rfl
        have cE5 := HE.cell (o := 5) rfl
        have cE6 := HE.cell (o := 6) rfl
        have cE7 := HE.cell (o := 7) rfl
        have cE8 := HE.cell (o := 8) rfl
        rw [hbr] at cE2
        replace hbr := Lib.hid hbr
        replace hzW1 := Lib.hid hzW1
        replace hzW2 := Lib.hid hzW2
        go_wp2_with fail
        refine (hR1.out _ hbW2).mono ?_
        rintro e w2 ⟨rfl, hb2'⟩
        clear cE1
        replace hzW1 := hzW1.out
        replace hzW2 := hzW2.out
        replace HE : Has w2 (b) [.int .i64 (op : Int), l.ptr, r.ptr, .string cc, .int .i64 (tv : Int), .bool nv, .int .i64 iv, .string xv, .bool bv] 97 := HE.only (Only.of_below hb2') (Nat.not_le.2 HE.lt)
        replace HP : Has w2 (w.heap.size) [.int .i64 0, .bool false, .int .i64 0, .string ⟨#[]⟩, .bool false] 33 := HP.only (Only.of_below hb2') (Nat.not_le.2 HP.lt)
        replace HQ : Has w2 (w.heap.size + 1) [.int .i64 0, .bool false, .int .i64 0, .string ⟨#[]⟩, .bool false] 33 := HQ.only (Only.of_below hb2') (Nat.not_le.2 HQ.lt)
        replace HA : Has w2 (w1.heap.size) [.int .i64 (ta : Int), .bool na, .int .i64 ia, .string xa, .bool ba] 33 := HA.only (Only.of_below hb2') (Nat.not_le.2 HA.lt)
        replace HB : Has w2 (w1.heap.size + 1) [.int .i64 (tb : Int), .bool nb, .int .i64 ib, .string xb, .bool bb] 33 := HB.only (Only.of_below hb2') (Nat.not_le.2 HB.lt)
        have hbw2 : Below w.heap.size w w2 := hbW2.trans (hb2'.mono hbW2.size)
        have hzw2 := hb2'.size
        replace hb2' := Lib.hid hb2'
        obtain ⟨W3, hW3⟩ : ∃ W3, W3 = (w2.alloc (.cells #[.int .i64 (tc : Int), .bool nc, .int .i64 ic, .string xc, .bool bc] 33)).alloc (.cells #[.int .i64 (tk : Int), .bool nk, .int .i64 ik, .string xk, .bool bk] 33) := ⟨_, rfl⟩
        replace HE : Has W3 (b) [.int .i64 (op : Int), l.ptr, r.ptr, .string cc, .int .i64 (tv : Int), .bool nv, .int .i64 iv, .string xv, .bool bv] 97 := by rw [hW3]; exact ((HE.alloc _).alloc _)
        replace HP : Has W3 (w.heap.size) [.int .i64 0, .bool false, .int .i64 0, .string ⟨#[]⟩, .bool false] 33 := by rw [hW3]; exact ((HP.alloc _).alloc _)
        replace HQ : Has W3 (w.heap.size + 1) [.int .i64 0, .bool false, .int .i64 0, .string ⟨#[]⟩, .bool false] 33 := by rw [hW3]; exact ((HQ.alloc _).alloc _)
        replace HA : Has W3 (w1.heap.size) [.int .i64 (ta : Int), .bool na, .int .i64 ia, .string xa, .bool ba] 33 := by rw [hW3]; exact ((HA.alloc _).alloc _)
        replace HB : Has W3 (w1.heap.size + 1) [.int .i64 (tb : Int), .bool nb, .int .i64 ib, .string xb, .bool bb] 33 := by rw [hW3]; exact ((HB.alloc _).alloc _)
        have HC : Has W3 (w2.heap.size) [.int .i64 (tc : Int), .bool nc, .int .i64 ic, .string xc, .bool bc] 33 := by
          rw [hW3]; have h := Has.new (w2) [.int .i64 (tc : Int), .bool nc, .int .i64 ic, .string xc, .bool bc] 33; (try simp only [World.size_alloc] at h); exact (h.alloc _)
        have HD : Has W3 (w2.heap.size + 1) [.int .i64 (tk : Int), .bool nk, .int .i64 ik, .string xk, .bool bk] 33 := by
          rw [hW3]; have h := Has.new ((w2.alloc (.cells #[.int .i64 (tc : Int), .bool nc, .int .i64 ic, .string xc, .bool bc] 33))) [.int .i64 (tk : Int), .bool nk, .int .i64 ik, .string xk, .bool bk] 33; (try simp only [World.size_alloc] at h); exact h
        have hbW3 : Below w.heap.size w W3 := by rw [hW3]; exact ((hbw2.alloc (by have := hbw2.size; (try simp only [World.size_alloc]); omega) _).alloc (by have := hbw2.size; (try simp only [World.size_alloc]); omega) _)
        have hzW3 : W3.heap.size = w2.heap.size + 2 := by rw [hW3]; simp
        replace hW3 := Lib.hid hW3
        go_upto_region 6 with fail
        rw [show (w2.alloc (.cells #[.int .i64 (tc : Int), .bool nc, .int .i64 ic, .string xc, .bool bc] 33)).alloc (.cells #[.int .i64 (tk : Int), .bool nk, .int .i64 ik, .string xk, .bool bk] 33) = W3 from hW3.out.symm]
        have hnA : ¬ (w1.heap.size = w.heap.size ∨ w1.heap.size = w.heap.size + 1) := by omega
        have hnB : ¬ (w1.heap.size + 1 = w.heap.size ∨ w1.heap.size + 1 = w.heap.size + 1) := by omega
        have hnC : ¬ (w2.heap.size = w.heap.size ∨ w2.heap.size = w.heap.size + 1) := by omega
        have hnD : ¬ (w2.heap.size + 1 = w.heap.size ∨ w2.heap.size + 1 = w.heap.size + 1) := by omega
        have hPQ : w.heap.size ≠ w.heap.size + 1 := by omega
        have hBw := hbW3
        clear cE0 cE2 cE3 cE4 cE5 cE6 cE7 cE8
        have cE0 := HE.cell (o := 0) rfl
        replace hBw := Lib.hid hBw
        replace HE := Lib.hid HE
        replace hzW1 := Lib.hid hzW1
        replace hzW2 := Lib.hid hzW2
        replace hzW3 := Lib.hid hzW3
        rcases ho12 with rfl | rfl
        · have d1 : (((1 : Nat) : Int) == 1) = true := rfl
          rw [if_pos rfl] at hpost
          have hb1' := fun w => rboth_any ⟨ta, na, ia, xa, ba⟩ ⟨tc, nc, ic, xc, bc⟩ 1 (.inl rfl) ha2 hc2 w
          have hb2'' := fun w => rboth_any ⟨tb, nb, ib, xb, bb⟩ ⟨tk, nk, ik, xk, bk⟩ (-1) (.inr rfl) hb2 hd2 w
          have ho1 := fun w => rordered_any ⟨ta, na, ia, xa, ba⟩ ⟨tc, nc, ic, xc, bc⟩ ha2 hc2 w
          have ho2 := fun w => rordered_any ⟨tb, nb, ib, xb, bb⟩ ⟨tk, nk, ik, xk, bk⟩ hb2 hd2 w
          have hlo := low_same hbdl.out.1 hbdr.out.1
          have hhi := high_same hbdl.out.2 hbdr.out.2
          have hor1 := ord_same ⟨ta, na, ia, xa, ba⟩ ⟨tc, nc, ic, xc, bc⟩
          have hor2 := ord_same ⟨tb, nb, ib, xb, bb⟩ ⟨tk, nk, ik, xk, bk⟩
          have hbo : bothP ⟨⟨ta, na, ia, xa, ba⟩, ⟨tb, nb, ib, xb, bb⟩, ea⟩ ⟨⟨tc, nc, ic, xc, bc⟩, ⟨tk, nk, ik, xk, bk⟩, ed⟩ = ⟨lowA ⟨ta, na, ia, xa, ba⟩ ⟨tc, nc, ic, xc, bc⟩, highA ⟨tb, nb, ib, xb, bb⟩ ⟨tk, nk, ik, xk, bk⟩, (ea && ed) && ordA ⟨ta, na, ia, xa, ba⟩ ⟨tc, nc, ic, xc, bc⟩ && ordA ⟨tb, nb, ib, xb, bb⟩ ⟨tk, nk, ik, xk, bk⟩⟩ := rfl
          dsimp only at hlo hhi
          rw [hlo, hhi, hor1, hor2] at hbo
          rw [hbo] at hpost
          generalize bothR ⟨ta, na, ia, xa, ba⟩ ⟨tc, nc, ic, xc, bc⟩ 1 = l1 at *
          generalize bothR ⟨tb, nb, ib, xb, bb⟩ ⟨tk, nk, ik, xk, bk⟩ (-1) = l2 at *
          generalize ordR ⟨ta, na, ia, xa, ba⟩ ⟨tc, nc, ic, xc, bc⟩ = o1 at *
          generalize ordR ⟨tb, nb, ib, xb, bb⟩ ⟨tk, nk, ik, xk, bk⟩ = o2 at *
          obtain ⟨tl, nl, il, xl, bl'⟩ := l1
          obtain ⟨th, nh, ih, xh, bh⟩ := l2
          unfold RV.rval at hb1' hb2'' ho1 ho2
          dsimp only at hb1' hb2'' ho1 ho2
          clear hlo hhi hor1 hor2 hbo
          replace hpost := Lib.hid hpost
          replace hb1' := Lib.hid hb1'
          replace hb2'' := Lib.hid hb2''
          replace ho1 := Lib.hid ho1
          replace ho2 := Lib.hid ho2
          go_upto_region 7 with fail
          clear cE0
          cases ea with
          | false =>
            cases ed
            · refine wp_region_part [2, 5, 20, 21] [[], [], [0], [1]] [] (CS W3 (fun s => if s = 0 then some (.agg #[.int .i64 (tl : Int), .bool nl, .int .i64 il, .string xl, .bool bl']) else if s = 1 then some (.agg #[.int .i64 (th : Int), .bool nh, .int .i64 ih, .string xh, .bool bh]) else if s = 2 then some (undef) else if s = 3 then some (undef) else none) (w.heap.size) (w.heap.size + 1) ⟨.int .i64 0, .bool false, .int .i64 0, .string ⟨#[]⟩, .bool false⟩ ⟨.int .i64 0, .bool false, .int .i64 0, .string ⟨#[]⟩, .bool false⟩ ⟨.int .i64 (tl : Int), .bool nl, .int .i64 il, .string xl, .bool bl'⟩ ⟨.int .i64 (th : Int), .bool nh, .int .i64 ih, .string xh, .bool bh⟩ 2 3 33) (by kernel_rfl) (by kernel_rfl) (by kernel_rfl) (CS.start HP HQ) (CS.ex hPQ (by decide) rfl rfl (fun s hs => by
                match s, hs with
                | 0, _ | 1, _ | 2, _ | 3, _ => exact ⟨_, rfl⟩
              )) (fun Hf hx => ?_)
              obtain ⟨w', hx⟩ := hx
              obtain ⟨hv, _⟩ := hx.done (by decide) (by decide)
              have v0e := hv 0 (by decide) _ rfl
              have v1e := hv 1 (by decide) _ rfl
              have v2e := hv 2 (by decide) _ rfl
              have v3e := hv 3 (by decide) _ rfl
              clear hv
              refine part_chunk [] 2 0 _ _ (by kernel_rfl) (by kernel_rfl) (by decide) ?_
              simp only [List.take_succ_cons, List.take_zero, List.drop_succ_cons, List.drop_zero]
              go_big_quiet_want
              go_big_quiet_op
              refine ⟨.agg #[.int .i64 (ta : Int), .bool na, .int .i64 ia, .string xa, .bool ba], fun wx hx => by
                have h := HA.only (CS.at hx) hnA
                have q0 := h.cell (o := 0) rfl
                have q1 := h.cell (o := 1) rfl
                have q2 := h.cell (o := 2) rfl
                have q3 := h.cell (o := 3) rfl
                have q4 := h.cell (o := 4) rfl
                simp [go_sem, q0, q1, q2, q3, q4], ?_⟩
              go_big_quiet_on
              go_big_quiet_want
              go_big_quiet_op
              refine ⟨.agg #[.int .i64 (tc : Int), .bool nc, .int .i64 ic, .string xc, .bool bc], fun wx hx => by
                have h := HC.only (CS.at hx) hnC
                have q0 := h.cell (o := 0) rfl
                have q1 := h.cell (o := 1) rfl
                have q2 := h.cell (o := 2) rfl
                have q3 := h.cell (o := 3) rfl
                have q4 := h.cell (o := 4) rfl
                simp [go_sem, q0, q1, q2, q3, q4], ?_⟩
              go_big_quiet_on
              refine wpQuiet_nil ?_
              refine part_step (s := 0) v0e (by go_simp; exact rfl) (by kernel_rfl) (by kernel_rfl) (fun H wx hs hn hp hc => ?_) ?_
              · refine callUpon_mk (f := 31) (args := #[.agg #[.int .i64 (ta : Int), .bool na, .int .i64 ia, .string xa, .bool ba], .agg #[.int .i64 (tc : Int), .bool nc, .int .i64 ic, .string xc, .bool bc], .int .i64 1]) (by simp [go_sem]) ?_
                exact (hb1'.out wx).mono fun e w'' ⟨he, h2⟩ => ⟨_, he, hc.call (by decide) (by decide) rfl h2⟩
              refine part_chunk [] 2 _ _ _ (by kernel_rfl) (by kernel_rfl) (by decide) ?_
              simp only [List.take_succ_cons, List.take_zero, List.drop_succ_cons, List.drop_zero]
              go_big_quiet_want
              go_big_quiet_op
              refine ⟨.agg #[.int .i64 (tb : Int), .bool nb, .int .i64 ib, .string xb, .bool bb], fun wx hx => by
                have h := HB.only (CS.at hx) hnB
                have q0 := h.cell (o := 0) rfl
                have q1 := h.cell (o := 1) rfl
                have q2 := h.cell (o := 2) rfl
                have q3 := h.cell (o := 3) rfl
                have q4 := h.cell (o := 4) rfl
                simp [go_sem, q0, q1, q2, q3, q4], ?_⟩
              go_big_quiet_on
              go_big_quiet_want
              go_big_quiet_op
              refine ⟨.agg #[.int .i64 (tk : Int), .bool nk, .int .i64 ik, .string xk, .bool bk], fun wx hx => by
                have h := HD.only (CS.at hx) hnD
                have q0 := h.cell (o := 0) rfl
                have q1 := h.cell (o := 1) rfl
                have q2 := h.cell (o := 2) rfl
                have q3 := h.cell (o := 3) rfl
                have q4 := h.cell (o := 4) rfl
                simp [go_sem, q0, q1, q2, q3, q4], ?_⟩
              go_big_quiet_on
              refine wpQuiet_nil ?_
              refine part_step (s := 1) v1e (by go_simp; exact rfl) (by kernel_rfl) (by kernel_rfl) (fun H wx hs hn hp hc => ?_) ?_
              · refine callUpon_mk (f := 31) (args := #[.agg #[.int .i64 (tb : Int), .bool nb, .int .i64 ib, .string xb, .bool bb], .agg #[.int .i64 (tk : Int), .bool nk, .int .i64 ik, .string xk, .bool bk], .int .i64 (-1)]) (by simp [go_sem]) ?_
                exact (hb2''.out wx).mono fun e w'' ⟨he, h2⟩ => ⟨_, he, hc.call (by decide) (by decide) rfl h2⟩
              refine part_chunk [] 7 _ _ _ (by kernel_rfl) (by kernel_rfl) (by decide) ?_
              simp only [List.take_succ_cons, List.take_zero, List.drop_succ_cons, List.drop_zero]
              go_big_quiet_want
              go_big_quiet_op
              first | go_big_quiet_on | (refine ⟨_, fun _ _ => rfl, ?_⟩; go_big_quiet_on)
              go_big_quiet_want
              go_big_quiet_op
              first | go_big_quiet_on | (refine ⟨_, fun _ _ => rfl, ?_⟩; go_big_quiet_on)
              go_big_quiet_skip
              go_big_quiet_want
              go_big_quiet_op
              first | go_big_quiet_on | (refine ⟨_, fun _ _ => rfl, ?_⟩; go_big_quiet_on)
              go_big_quiet_want
              go_big_quiet_op
              first | go_big_quiet_on | (refine ⟨_, fun _ _ => rfl, ?_⟩; go_big_quiet_on)
              go_big_quiet_skip
              go_big_quiet_skip
              refine wpQuiet_nil ?_
              refine part_skip (by go_simp; exact rfl) (by kernel_rfl) (by kernel_rfl) ?_
              refine part_chunk [] 4 _ _ _ (by kernel_rfl) (by kernel_rfl) (by decide) ?_
              simp only [List.take_succ_cons, List.take_zero, List.drop_succ_cons, List.drop_zero]
              go_big_quiet_want
              go_big_quiet_op
              first | go_big_quiet_on | (refine ⟨_, fun _ _ => rfl, ?_⟩; go_big_quiet_on)
              go_big_quiet_want
              go_big_quiet_op
              first | go_big_quiet_on | (refine ⟨_, fun _ _ => rfl, ?_⟩; go_big_quiet_on)
              go_big_quiet_skip
              go_big_quiet_skip
              refine wpQuiet_nil ?_
              refine part_skip (by go_simp; exact rfl) (by kernel_rfl) (by kernel_rfl) ?_
              refine part_chunk [] 1 _ _ _ (by kernel_rfl) (by kernel_rfl) (by decide) ?_
              simp only [List.take_succ_cons, List.take_zero, List.drop_succ_cons, List.drop_zero]
              go_big_quiet_want
              go_big_quiet_op
              first | go_big_quiet_on | (refine ⟨_, fun _ _ => rfl, ?_⟩; go_big_quiet_on)
              refine wpQuiet_nil ?_
              refine part_step (s := 2) v2e (by go_simp; exact rfl) (by kernel_rfl) (by kernel_rfl) (fun H wx hs hn hp hc => ?_) ?_
              · have g := hc.h4
                have hno : H 2 = none := hn
                rw [hno] at g
                simp only [Option.isSome_none, Bool.false_eq_true, if_false, V5.l] at g
                have q0 := g.cell (o := 0) rfl
                have f0 := g.free 0
                have q1 := g.cell (o := 1) rfl
                have f1 := g.free 1
                have q2 := g.cell (o := 2) rfl
                have f2 := g.free 2
                have q3 := g.cell (o := 3) rfl
                have f3 := g.free 3
                have q4 := g.cell (o := 4) rfl
                have f4 := g.free 4
                exact callUpon_skip (by simp [go_sem, q0, q1, q2, q3, q4, f0, f1, f2, f3, f4]; rfl) (hc.sto4 hPQ (by decide) rfl)
              refine part_step (s := 3) v3e (by go_simp; exact rfl) (by kernel_rfl) (by kernel_rfl) (fun H wx hs hn hp hc => ?_) ?_
              · have g := hc.h5
                have hno : H 3 = none := hn
                rw [hno] at g
                simp only [Option.isSome_none, Bool.false_eq_true, if_false, V5.l] at g
                have q0 := g.cell (o := 0) rfl
                have f0 := g.free 0
                have q1 := g.cell (o := 1) rfl
                have f1 := g.free 1
                have q2 := g.cell (o := 2) rfl
                have f2 := g.free 2
                have q3 := g.cell (o := 3) rfl
                have f3 := g.free 3
                have q4 := g.cell (o := 4) rfl
                have f4 := g.free 4
                exact callUpon_skip (by simp [go_sem, q0, q1, q2, q3, q4, f0, f1, f2, f3, f4]; rfl) (hc.sto5 hPQ (by decide) rfl)
              refine part_chunk [] 1 _ _ _ (by kernel_rfl) (by kernel_rfl) (by decide) ?_
              simp only [List.take_succ_cons, List.take_zero, List.drop_succ_cons, List.drop_zero]
              go_big_quiet_want
              go_big_quiet_op
              first | go_big_quiet_on | (refine ⟨_, fun _ _ => rfl, ?_⟩; go_big_quiet_on)
              refine wpQuiet_nil ?_
              intro wz hz
              obtain ⟨_, hZ4, hZ5, hZO⟩ := hz.done (by decide) (by decide)
              have hZ4 := Lib.hid hZ4
              have hZ5 := Lib.hid hZ5
              have hbz : Below w.heap.size w wz := hBw.out.trans (hZO.below (B := w.heap.size) hBw.out.size (fun k _ hk => by rcases hk with hk | hk <;> omega))
              have hf : post (.returned (.tuple #[.agg #[.int .i64 (tl : Int), .bool nl, .int .i64 il, .string xl, .bool bl'], .agg #[.int .i64 (th : Int), .bool nh, .int .i64 ih, .string xh, .bool bh], .bool false])) wz := by
                rw [← hpost.out]
              
                exact ⟨rfl, hbz⟩
              replace hf := Lib.hid hf
              have r0 := Lib.hid (hZ4.out.cell (o := 0) rfl)
              have r1 := Lib.hid (hZ4.out.cell (o := 1) rfl)
              have r2 := Lib.hid (hZ4.out.cell (o := 2) rfl)
              have r3 := Lib.hid (hZ4.out.cell (o := 3) rfl)
              have r4 := Lib.hid (hZ4.out.cell (o := 4) rfl)
              have s0 := Lib.hid (hZ5.out.cell (o := 0) rfl)
              have s1 := Lib.hid (hZ5.out.cell (o := 1) rfl)
              have s2 := Lib.hid (hZ5.out.cell (o := 2) rfl)
              have s3 := Lib.hid (hZ5.out.cell (o := 3) rfl)
              have s4 := Lib.hid (hZ5.out.cell (o := 4) rfl)
              clear hx hz hZO hbz
              go_wp2_with fail
              exact bodyPost_ret (v := .tuple #[.agg #[.int .i64 (tl : Int), .bool nl, .int .i64 il, .string xl, .bool bl'], .agg #[.int .i64 (th : Int), .bool nh, .int .i64 ih, .string xh, .bool bh], .bool false]) (by simp [results, Tryz.results12, go_sem, r0.out, r1.out, r2.out, r3.out, r4.out, s0.out, s1.out, s2.out, s3.out, s4.out]) rfl hf.out
            · refine wp_region_part [2, 5, 20, 21] [[], [], [0], [1]] [] (CS W3 (fun s => if s = 0 then some (.agg #[.int .i64 (tl : Int), .bool nl, .int .i64 il, .string xl, .bool bl']) else if s = 1 then some (.agg #[.int .i64 (th : Int), .bool nh, .int .i64 ih, .string xh, .bool bh]) else if s = 2 then some (undef) else if s = 3 then some (undef) else none) (w.heap.size) (w.heap.size + 1) ⟨.int .i64 0, .bool false, .int .i64 0, .string ⟨#[]⟩, .bool false⟩ ⟨.int .i64 0, .bool false, .int .i64 0, .string ⟨#[]⟩, .bool false⟩ ⟨.int .i64 (tl : Int), .bool nl, .int .i64 il, .string xl, .bool bl'⟩ ⟨.int .i64 (th : Int), .bool nh, .int .i64 ih, .string xh, .bool bh⟩ 2 3 33) (by kernel_rfl) (by kernel_rfl) (by kernel_rfl) (CS.start HP HQ) (CS.ex hPQ (by decide) rfl rfl (fun s hs => by
                match s, hs with
                | 0, _ | 1, _ | 2, _ | 3, _ => exact ⟨_, rfl⟩
              )) (fun Hf hx => ?_)
              obtain ⟨w', hx⟩ := hx
              obtain ⟨hv, _⟩ := hx.done (by decide) (by decide)
              have v0e := hv 0 (by decide) _ rfl
              have v1e := hv 1 (by decide) _ rfl
              have v2e := hv 2 (by decide) _ rfl
              have v3e := hv 3 (by decide) _ rfl
              clear hv
              refine part_chunk [] 2 0 _ _ (by kernel_rfl) (by kernel_rfl) (by decide) ?_
              simp only [List.take_succ_cons, List.take_zero, List.drop_succ_cons, List.drop_zero]
              go_big_quiet_want
              go_big_quiet_op
              refine ⟨.agg #[.int .i64 (ta : Int), .bool na, .int .i64 ia, .string xa, .bool ba], fun wx hx => by
                have h := HA.only (CS.at hx) hnA
                have q0 := h.cell (o := 0) rfl
                have q1 := h.cell (o := 1) rfl
                have q2 := h.cell (o := 2) rfl
                have q3 := h.cell (o := 3) rfl
                have q4 := h.cell (o := 4) rfl
                simp [go_sem, q0, q1, q2, q3, q4], ?_⟩
              go_big_quiet_on
              go_big_quiet_want
              go_big_quiet_op
              refine ⟨.agg #[.int .i64 (tc : Int), .bool nc, .int .i64 ic, .string xc, .bool bc], fun wx hx => by
                have h := HC.only (CS.at hx) hnC
                have q0 := h.cell (o := 0) rfl
                have q1 := h.cell (o := 1) rfl
                have q2 := h.cell (o := 2) rfl
                have q3 := h.cell (o := 3) rfl
                have q4 := h.cell (o := 4) rfl
                simp [go_sem, q0, q1, q2, q3, q4], ?_⟩
              go_big_quiet_on
              refine wpQuiet_nil ?_
              refine part_step (s := 0) v0e (by go_simp; exact rfl) (by kernel_rfl) (by kernel_rfl) (fun H wx hs hn hp hc => ?_) ?_
              · refine callUpon_mk (f := 31) (args := #[.agg #[.int .i64 (ta : Int), .bool na, .int .i64 ia, .string xa, .bool ba], .agg #[.int .i64 (tc : Int), .bool nc, .int .i64 ic, .string xc, .bool bc], .int .i64 1]) (by simp [go_sem]) ?_
                exact (hb1'.out wx).mono fun e w'' ⟨he, h2⟩ => ⟨_, he, hc.call (by decide) (by decide) rfl h2⟩
              refine part_chunk [] 2 _ _ _ (by kernel_rfl) (by kernel_rfl) (by decide) ?_
              simp only [List.take_succ_cons, List.take_zero, List.drop_succ_cons, List.drop_zero]
              go_big_quiet_want
              go_big_quiet_op
              refine ⟨.agg #[.int .i64 (tb : Int), .bool nb, .int .i64 ib, .string xb, .bool bb], fun wx hx => by
                have h := HB.only (CS.at hx) hnB
                have q0 := h.cell (o := 0) rfl
                have q1 := h.cell (o := 1) rfl
                have q2 := h.cell (o := 2) rfl
                have q3 := h.cell (o := 3) rfl
                have q4 := h.cell (o := 4) rfl
                simp [go_sem, q0, q1, q2, q3, q4], ?_⟩
              go_big_quiet_on
              go_big_quiet_want
              go_big_quiet_op
              refine ⟨.agg #[.int .i64 (tk : Int), .bool nk, .int .i64 ik, .string xk, .bool bk], fun wx hx => by
                have h := HD.only (CS.at hx) hnD
                have q0 := h.cell (o := 0) rfl
                have q1 := h.cell (o := 1) rfl
                have q2 := h.cell (o := 2) rfl
                have q3 := h.cell (o := 3) rfl
                have q4 := h.cell (o := 4) rfl
                simp [go_sem, q0, q1, q2, q3, q4], ?_⟩
              go_big_quiet_on
              refine wpQuiet_nil ?_
              refine part_step (s := 1) v1e (by go_simp; exact rfl) (by kernel_rfl) (by kernel_rfl) (fun H wx hs hn hp hc => ?_) ?_
              · refine callUpon_mk (f := 31) (args := #[.agg #[.int .i64 (tb : Int), .bool nb, .int .i64 ib, .string xb, .bool bb], .agg #[.int .i64 (tk : Int), .bool nk, .int .i64 ik, .string xk, .bool bk], .int .i64 (-1)]) (by simp [go_sem]) ?_
                exact (hb2''.out wx).mono fun e w'' ⟨he, h2⟩ => ⟨_, he, hc.call (by decide) (by decide) rfl h2⟩
              refine part_chunk [] 7 _ _ _ (by kernel_rfl) (by kernel_rfl) (by decide) ?_
              simp only [List.take_succ_cons, List.take_zero, List.drop_succ_cons, List.drop_zero]
              go_big_quiet_want
              go_big_quiet_op
              first | go_big_quiet_on | (refine ⟨_, fun _ _ => rfl, ?_⟩; go_big_quiet_on)
              go_big_quiet_want
              go_big_quiet_op
              first | go_big_quiet_on | (refine ⟨_, fun _ _ => rfl, ?_⟩; go_big_quiet_on)
              go_big_quiet_skip
              go_big_quiet_want
              go_big_quiet_op
              first | go_big_quiet_on | (refine ⟨_, fun _ _ => rfl, ?_⟩; go_big_quiet_on)
              go_big_quiet_want
              go_big_quiet_op
              first | go_big_quiet_on | (refine ⟨_, fun _ _ => rfl, ?_⟩; go_big_quiet_on)
              go_big_quiet_skip
              go_big_quiet_skip
              refine wpQuiet_nil ?_
              refine part_skip (by go_simp; exact rfl) (by kernel_rfl) (by kernel_rfl) ?_
              refine part_chunk [] 4 _ _ _ (by kernel_rfl) (by kernel_rfl) (by decide) ?_
              simp only [List.take_succ_cons, List.take_zero, List.drop_succ_cons, List.drop_zero]
              go_big_quiet_want
              go_big_quiet_op
              first | go_big_quiet_on | (refine ⟨_, fun _ _ => rfl, ?_⟩; go_big_quiet_on)
              go_big_quiet_want
              go_big_quiet_op
              first | go_big_quiet_on | (refine ⟨_, fun _ _ => rfl, ?_⟩; go_big_quiet_on)
              go_big_quiet_skip
              go_big_quiet_skip
              refine wpQuiet_nil ?_
              refine part_skip (by go_simp; exact rfl) (by kernel_rfl) (by kernel_rfl) ?_
              refine part_chunk [] 1 _ _ _ (by kernel_rfl) (by kernel_rfl) (by decide) ?_
              simp only [List.take_succ_cons, List.take_zero, List.drop_succ_cons, List.drop_zero]
              go_big_quiet_want
              go_big_quiet_op
              first | go_big_quiet_on | (refine ⟨_, fun _ _ => rfl, ?_⟩; go_big_quiet_on)
              refine wpQuiet_nil ?_
              refine part_step (s := 2) v2e (by go_simp; exact rfl) (by kernel_rfl) (by kernel_rfl) (fun H wx hs hn hp hc => ?_) ?_
              · have g := hc.h4
                have hno : H 2 = none := hn
                rw [hno] at g
                simp only [Option.isSome_none, Bool.false_eq_true, if_false, V5.l] at g
                have q0 := g.cell (o := 0) rfl
                have f0 := g.free 0
                have q1 := g.cell (o := 1) rfl
                have f1 := g.free 1
                have q2 := g.cell (o := 2) rfl
                have f2 := g.free 2
                have q3 := g.cell (o := 3) rfl
                have f3 := g.free 3
                have q4 := g.cell (o := 4) rfl
                have f4 := g.free 4
                exact callUpon_skip (by simp [go_sem, q0, q1, q2, q3, q4, f0, f1, f2, f3, f4]; rfl) (hc.sto4 hPQ (by decide) rfl)
              refine part_step (s := 3) v3e (by go_simp; exact rfl) (by kernel_rfl) (by kernel_rfl) (fun H wx hs hn hp hc => ?_) ?_
              · have g := hc.h5
                have hno : H 3 = none := hn
                rw [hno] at g
                simp only [Option.isSome_none, Bool.false_eq_true, if_false, V5.l] at g
                have q0 := g.cell (o := 0) rfl
                have f0 := g.free 0
                have q1 := g.cell (o := 1) rfl
                have f1 := g.free 1
                have q2 := g.cell (o := 2) rfl
                have f2 := g.free 2
                have q3 := g.cell (o := 3) rfl
                have f3 := g.free 3
                have q4 := g.cell (o := 4) rfl
                have f4 := g.free 4
                exact callUpon_skip (by simp [go_sem, q0, q1, q2, q3, q4, f0, f1, f2, f3, f4]; rfl) (hc.sto5 hPQ (by decide) rfl)
              refine part_chunk [] 1 _ _ _ (by kernel_rfl) (by kernel_rfl) (by decide) ?_
              simp only [List.take_succ_cons, List.take_zero, List.drop_succ_cons, List.drop_zero]
              go_big_quiet_want
              go_big_quiet_op
              first | go_big_quiet_on | (refine ⟨_, fun _ _ => rfl, ?_⟩; go_big_quiet_on)
              refine wpQuiet_nil ?_
              intro wz hz
              obtain ⟨_, hZ4, hZ5, hZO⟩ := hz.done (by decide) (by decide)
              have hZ4 := Lib.hid hZ4
              have hZ5 := Lib.hid hZ5
              have hbz : Below w.heap.size w wz := hBw.out.trans (hZO.below (B := w.heap.size) hBw.out.size (fun k _ hk => by rcases hk with hk | hk <;> omega))
              have hf : post (.returned (.tuple #[.agg #[.int .i64 (tl : Int), .bool nl, .int .i64 il, .string xl, .bool bl'], .agg #[.int .i64 (th : Int), .bool nh, .int .i64 ih, .string xh, .bool bh], .bool false])) wz := by
                rw [← hpost.out]
              
                exact ⟨rfl, hbz⟩
              replace hf := Lib.hid hf
              have r0 := Lib.hid (hZ4.out.cell (o := 0) rfl)
              have r1 := Lib.hid (hZ4.out.cell (o := 1) rfl)
              have r2 := Lib.hid (hZ4.out.cell (o := 2) rfl)
              have r3 := Lib.hid (hZ4.out.cell (o := 3) rfl)
              have r4 := Lib.hid (hZ4.out.cell (o := 4) rfl)
              have s0 := Lib.hid (hZ5.out.cell (o := 0) rfl)
              have s1 := Lib.hid (hZ5.out.cell (o := 1) rfl)
              have s2 := Lib.hid (hZ5.out.cell (o := 2) rfl)
              have s3 := Lib.hid (hZ5.out.cell (o := 3) rfl)
              have s4 := Lib.hid (hZ5.out.cell (o := 4) rfl)
              clear hx hz hZO hbz
              go_wp2_with fail
              exact bodyPost_ret (v := .tuple #[.agg #[.int .i64 (tl : Int), .bool nl, .int .i64 il, .string xl, .bool bl'], .agg #[.int .i64 (th : Int), .bool nh, .int .i64 ih, .string xh, .bool bh], .bool false]) (by simp [results, Tryz.results12, go_sem, r0.out, r1.out, r2.out, r3.out, r4.out, s0.out, s1.out, s2.out, s3.out, s4.out]) rfl hf.out
          | true =>
            cases ed with
            | false =>
              refine wp_region_part [2, 5, 20, 21] [[], [], [0], [1]] [] (CS W3 (fun s => if s = 0 then some (.agg #[.int .i64 (tl : Int), .bool nl, .int .i64 il, .string xl, .bool bl']) else if s = 1 then some (.agg #[.int .i64 (th : Int), .bool nh, .int .i64 ih, .string xh, .bool bh]) else if s = 2 then some (undef) else if s = 3 then some (undef) else none) (w.heap.size) (w.heap.size + 1) ⟨.int .i64 0, .bool false, .int .i64 0, .string ⟨#[]⟩, .bool false⟩ ⟨.int .i64 0, .bool false, .int .i64 0, .string ⟨#[]⟩, .bool false⟩ ⟨.int .i64 (tl : Int), .bool nl, .int .i64 il, .string xl, .bool bl'⟩ ⟨.int .i64 (th : Int), .bool nh, .int .i64 ih, .string xh, .bool bh⟩ 2 3 33) (by kernel_rfl) (by kernel_rfl) (by kernel_rfl) (CS.start HP HQ) (CS.ex hPQ (by decide) rfl rfl (fun s hs => by
                match s, hs with
                | 0, _ | 1, _ | 2, _ | 3, _ => exact ⟨_, rfl⟩
              )) (fun Hf hx => ?_)
              obtain ⟨w', hx⟩ := hx
              obtain ⟨hv, _⟩ := hx.done (by decide) (by decide)
              have v0e := hv 0 (by decide) _ rfl
              have v1e := hv 1 (by decide) _ rfl
              have v2e := hv 2 (by decide) _ rfl
              have v3e := hv 3 (by decide) _ rfl
              clear hv
              refine part_chunk [] 2 0 _ _ (by kernel_rfl) (by kernel_rfl) (by decide) ?_
              simp only [List.take_succ_cons, List.take_zero, List.drop_succ_cons, List.drop_zero]
              go_big_quiet_want
              go_big_quiet_op
              refine ⟨.agg #[.int .i64 (ta : Int), .bool na, .int .i64 ia, .string xa, .bool ba], fun wx hx => by
                have h := HA.only (CS.at hx) hnA
                have q0 := h.cell (o := 0) rfl
                have q1 := h.cell (o := 1) rfl
                have q2 := h.cell (o := 2) rfl
                have q3 := h.cell (o := 3) rfl
                have q4 := h.cell (o := 4) rfl
                simp [go_sem, q0, q1, q2, q3, q4], ?_⟩
              go_big_quiet_on
              go_big_quiet_want
              go_big_quiet_op
              refine ⟨.agg #[.int .i64 (tc : Int), .bool nc, .int .i64 ic, .string xc, .bool bc], fun wx hx => by
                have h := HC.only (CS.at hx) hnC
                have q0 := h.cell (o := 0) rfl
                have q1 := h.cell (o := 1) rfl
                have q2 := h.cell (o := 2) rfl
                have q3 := h.cell (o := 3) rfl
                have q4 := h.cell (o := 4) rfl
                simp [go_sem, q0, q1, q2, q3, q4], ?_⟩
              go_big_quiet_on
              refine wpQuiet_nil ?_
              refine part_step (s := 0) v0e (by go_simp; exact rfl) (by kernel_rfl) (by kernel_rfl) (fun H wx hs hn hp hc => ?_) ?_
              · refine callUpon_mk (f := 31) (args := #[.agg #[.int .i64 (ta : Int), .bool na, .int .i64 ia, .string xa, .bool ba], .agg #[.int .i64 (tc : Int), .bool nc, .int .i64 ic, .string xc, .bool bc], .int .i64 1]) (by simp [go_sem]) ?_
                exact (hb1'.out wx).mono fun e w'' ⟨he, h2⟩ => ⟨_, he, hc.call (by decide) (by decide) rfl h2⟩
              refine part_chunk [] 2 _ _ _ (by kernel_rfl) (by kernel_rfl) (by decide) ?_
              simp only [List.take_succ_cons, List.take_zero, List.drop_succ_cons, List.drop_zero]
              go_big_quiet_want
              go_big_quiet_op
              refine ⟨.agg #[.int .i64 (tb : Int), .bool nb, .int .i64 ib, .string xb, .bool bb], fun wx hx => by
                have h := HB.only (CS.at hx) hnB
                have q0 := h.cell (o := 0) rfl
                have q1 := h.cell (o := 1) rfl
                have q2 := h.cell (o := 2) rfl
                have q3 := h.cell (o := 3) rfl
                have q4 := h.cell (o := 4) rfl
                simp [go_sem, q0, q1, q2, q3, q4], ?_⟩
              go_big_quiet_on
              go_big_quiet_want
              go_big_quiet_op
              refine ⟨.agg #[.int .i64 (tk : Int), .bool nk, .int .i64 ik, .string xk, .bool bk], fun wx hx => by
                have h := HD.only (CS.at hx) hnD
                have q0 := h.cell (o := 0) rfl
                have q1 := h.cell (o := 1) rfl
                have q2 := h.cell (o := 2) rfl
                have q3 := h.cell (o := 3) rfl
                have q4 := h.cell (o := 4) rfl
                simp [go_sem, q0, q1, q2, q3, q4], ?_⟩
              go_big_quiet_on
              refine wpQuiet_nil ?_
              refine part_step (s := 1) v1e (by go_simp; exact rfl) (by kernel_rfl) (by kernel_rfl) (fun H wx hs hn hp hc => ?_) ?_
              · refine callUpon_mk (f := 31) (args := #[.agg #[.int .i64 (tb : Int), .bool nb, .int .i64 ib, .string xb, .bool bb], .agg #[.int .i64 (tk : Int), .bool nk, .int .i64 ik, .string xk, .bool bk], .int .i64 (-1)]) (by simp [go_sem]) ?_
                exact (hb2''.out wx).mono fun e w'' ⟨he, h2⟩ => ⟨_, he, hc.call (by decide) (by decide) rfl h2⟩
              refine part_chunk [] 7 _ _ _ (by kernel_rfl) (by kernel_rfl) (by decide) ?_
              simp only [List.take_succ_cons, List.take_zero, List.drop_succ_cons, List.drop_zero]
              go_big_quiet_want
              go_big_quiet_op
              first | go_big_quiet_on | (refine ⟨_, fun _ _ => rfl, ?_⟩; go_big_quiet_on)
              go_big_quiet_want
              go_big_quiet_op
              first | go_big_quiet_on | (refine ⟨_, fun _ _ => rfl, ?_⟩; go_big_quiet_on)
              go_big_quiet_want
              go_big_quiet_op
              first | go_big_quiet_on | (refine ⟨_, fun _ _ => rfl, ?_⟩; go_big_quiet_on)
              go_big_quiet_want
              go_big_quiet_op
              first | go_big_quiet_on | (refine ⟨_, fun _ _ => rfl, ?_⟩; go_big_quiet_on)
              go_big_quiet_want
              go_big_quiet_op
              first | go_big_quiet_on | (refine ⟨_, fun _ _ => rfl, ?_⟩; go_big_quiet_on)
              go_big_quiet_skip
              go_big_quiet_skip
              refine wpQuiet_nil ?_
              refine part_skip (by go_simp; exact rfl) (by kernel_rfl) (by kernel_rfl) ?_
              refine part_chunk [] 4 _ _ _ (by kernel_rfl) (by kernel_rfl) (by decide) ?_
              simp only [List.take_succ_cons, List.take_zero, List.drop_succ_cons, List.drop_zero]
              go_big_quiet_want
              go_big_quiet_op
              first | go_big_quiet_on | (refine ⟨_, fun _ _ => rfl, ?_⟩; go_big_quiet_on)
              go_big_quiet_want
              go_big_quiet_op
              first | go_big_quiet_on | (refine ⟨_, fun _ _ => rfl, ?_⟩; go_big_quiet_on)
              go_big_quiet_skip
              go_big_quiet_skip
              refine wpQuiet_nil ?_
              refine part_skip (by go_simp; exact rfl) (by kernel_rfl) (by kernel_rfl) ?_
              refine part_chunk [] 1 _ _ _ (by kernel_rfl) (by kernel_rfl) (by decide) ?_
              simp only [List.take_succ_cons, List.take_zero, List.drop_succ_cons, List.drop_zero]
              go_big_quiet_want
              go_big_quiet_op
              first | go_big_quiet_on | (refine ⟨_, fun _ _ => rfl, ?_⟩; go_big_quiet_on)
              refine wpQuiet_nil ?_
              refine part_step (s := 2) v2e (by go_simp; exact rfl) (by kernel_rfl) (by kernel_rfl) (fun H wx hs hn hp hc => ?_) ?_
              · have g := hc.h4
                have hno : H 2 = none := hn
                rw [hno] at g
                simp only [Option.isSome_none, Bool.false_eq_true, if_false, V5.l] at g
                have q0 := g.cell (o := 0) rfl
                have f0 := g.free 0
                have q1 := g.cell (o := 1) rfl
                have f1 := g.free 1
                have q2 := g.cell (o := 2) rfl
                have f2 := g.free 2
                have q3 := g.cell (o := 3) rfl
                have f3 := g.free 3
                have q4 := g.cell (o := 4) rfl
                have f4 := g.free 4
                exact callUpon_skip (by simp [go_sem, q0, q1, q2, q3, q4, f0, f1, f2, f3, f4]; rfl) (hc.sto4 hPQ (by decide) rfl)
              refine part_step (s := 3) v3e (by go_simp; exact rfl) (by kernel_rfl) (by kernel_rfl) (fun H wx hs hn hp hc => ?_) ?_
              · have g := hc.h5
                have hno : H 3 = none := hn
                rw [hno] at g
                simp only [Option.isSome_none, Bool.false_eq_true, if_false, V5.l] at g
                have q0 := g.cell (o := 0) rfl
                have f0 := g.free 0
                have q1 := g.cell (o := 1) rfl
                have f1 := g.free 1
                have q2 := g.cell (o := 2) rfl
                have f2 := g.free 2
                have q3 := g.cell (o := 3) rfl
                have f3 := g.free 3
                have q4 := g.cell (o := 4) rfl
                have f4 := g.free 4
                exact callUpon_skip (by simp [go_sem, q0, q1, q2, q3, q4, f0, f1, f2, f3, f4]; rfl) (hc.sto5 hPQ (by decide) rfl)
              refine part_chunk [] 1 _ _ _ (by kernel_rfl) (by kernel_rfl) (by decide) ?_
              simp only [List.take_succ_cons, List.take_zero, List.drop_succ_cons, List.drop_zero]
              go_big_quiet_want
              go_big_quiet_op
              first | go_big_quiet_on | (refine ⟨_, fun _ _ => rfl, ?_⟩; go_big_quiet_on)
              refine wpQuiet_nil ?_
              intro wz hz
              obtain ⟨_, hZ4, hZ5, hZO⟩ := hz.done (by decide) (by decide)
              have hZ4 := Lib.hid hZ4
              have hZ5 := Lib.hid hZ5
              have hbz : Below w.heap.size w wz := hBw.out.trans (hZO.below (B := w.heap.size) hBw.out.size (fun k _ hk => by rcases hk with hk | hk <;> omega))
              have hf : post (.returned (.tuple #[.agg #[.int .i64 (tl : Int), .bool nl, .int .i64 il, .string xl, .bool bl'], .agg #[.int .i64 (th : Int), .bool nh, .int .i64 ih, .string xh, .bool bh], .bool false])) wz := by
                rw [← hpost.out]
              
                exact ⟨rfl, hbz⟩
              replace hf := Lib.hid hf
              have r0 := Lib.hid (hZ4.out.cell (o := 0) rfl)
              have r1 := Lib.hid (hZ4.out.cell (o := 1) rfl)
              have r2 := Lib.hid (hZ4.out.cell (o := 2) rfl)
              have r3 := Lib.hid (hZ4.out.cell (o := 3) rfl)
              have r4 := Lib.hid (hZ4.out.cell (o := 4) rfl)
              have s0 := Lib.hid (hZ5.out.cell (o := 0) rfl)
              have s1 := Lib.hid (hZ5.out.cell (o := 1) rfl)
              have s2 := Lib.hid (hZ5.out.cell (o := 2) rfl)
              have s3 := Lib.hid (hZ5.out.cell (o := 3) rfl)
              have s4 := Lib.hid (hZ5.out.cell (o := 4) rfl)
              clear hx hz hZO hbz
              go_wp2_with fail
              exact bodyPost_ret (v := .tuple #[.agg #[.int .i64 (tl : Int), .bool nl, .int .i64 il, .string xl, .bool bl'], .agg #[.int .i64 (th : Int), .bool nh, .int .i64 ih, .string xh, .bool bh], .bool false]) (by simp [results, Tryz.results12, go_sem, r0.out, r1.out, r2.out, r3.out, r4.out, s0.out, s1.out, s2.out, s3.out, s4.out]) rfl hf.out
            | true =>
              cases o1
              · refine wp_region_part [2, 5, 13, 20, 21] [[], [], [], [0], [1]] [] (CS W3 (fun s => if s = 0 then some (.agg #[.int .i64 (tl : Int), .bool nl, .int .i64 il, .string xl, .bool bl']) else if s = 1 then some (.agg #[.int .i64 (th : Int), .bool nh, .int .i64 ih, .string xh, .bool bh]) else if s = 2 then some (.bool false) else if s = 3 then some (undef) else if s = 4 then some (undef) else none) (w.heap.size) (w.heap.size + 1) ⟨.int .i64 0, .bool false, .int .i64 0, .string ⟨#[]⟩, .bool false⟩ ⟨.int .i64 0, .bool false, .int .i64 0, .string ⟨#[]⟩, .bool false⟩ ⟨.int .i64 (tl : Int), .bool nl, .int .i64 il, .string xl, .bool bl'⟩ ⟨.int .i64 (th : Int), .bool nh, .int .i64 ih, .string xh, .bool bh⟩ 3 4 33) (by kernel_rfl) (by kernel_rfl) (by kernel_rfl) (CS.start HP HQ) (CS.ex hPQ (by decide) rfl rfl (fun s hs => by
                  match s, hs with
                  | 0, _ | 1, _ | 2, _ | 3, _ | 4, _ => exact ⟨_, rfl⟩
                )) (fun Hf hx => ?_)
                obtain ⟨w', hx⟩ := hx
                obtain ⟨hv, _⟩ := hx.done (by decide) (by decide)
                have v0e := hv 0 (by decide) _ rfl
                have v1e := hv 1 (by decide) _ rfl
                have v2e := hv 2 (by decide) _ rfl
                have v3e := hv 3 (by decide) _ rfl
                have v4e := hv 4 (by decide) _ rfl
                clear hv
                refine part_chunk [] 2 0 _ _ (by kernel_rfl) (by kernel_rfl) (by decide) ?_
                simp only [List.take_succ_cons, List.take_zero, List.drop_succ_cons, List.drop_zero]
                go_big_quiet_want
                go_big_quiet_op
                refine ⟨.agg #[.int .i64 (ta : Int), .bool na, .int .i64 ia, .string xa, .bool ba], fun wx hx => by
                  have h := HA.only (CS.at hx) hnA
                  have q0 := h.cell (o := 0) rfl
                  have q1 := h.cell (o := 1) rfl
                  have q2 := h.cell (o := 2) rfl
                  have q3 := h.cell (o := 3) rfl
                  have q4 := h.cell (o := 4) rfl
                  simp [go_sem, q0, q1, q2, q3, q4], ?_⟩
                go_big_quiet_on
                go_big_quiet_want
                go_big_quiet_op
                refine ⟨.agg #[.int .i64 (tc : Int), .bool nc, .int .i64 ic, .string xc, .bool bc], fun wx hx => by
                  have h := HC.only (CS.at hx) hnC
                  have q0 := h.cell (o := 0) rfl
                  have q1 := h.cell (o := 1) rfl
                  have q2 := h.cell (o := 2) rfl
                  have q3 := h.cell (o := 3) rfl
                  have q4 := h.cell (o := 4) rfl
                  simp [go_sem, q0, q1, q2, q3, q4], ?_⟩
                go_big_quiet_on
                refine wpQuiet_nil ?_
                refine part_step (s := 0) v0e (by go_simp; exact rfl) (by kernel_rfl) (by kernel_rfl) (fun H wx hs hn hp hc => ?_) ?_
                · refine callUpon_mk (f := 31) (args := #[.agg #[.int .i64 (ta : Int), .bool na, .int .i64 ia, .string xa, .bool ba], .agg #[.int .i64 (tc : Int), .bool nc, .int .i64 ic, .string xc, .bool bc], .int .i64 1]) (by simp [go_sem]) ?_
                  exact (hb1'.out wx).mono fun e w'' ⟨he, h2⟩ => ⟨_, he, hc.call (by decide) (by decide) rfl h2⟩
                refine part_chunk [] 2 _ _ _ (by kernel_rfl) (by kernel_rfl) (by decide) ?_
                simp only [List.take_succ_cons, List.take_zero, List.drop_succ_cons, List.drop_zero]
                go_big_quiet_want
                go_big_quiet_op
                refine ⟨.agg #[.int .i64 (tb : Int), .bool nb, .int .i64 ib, .string xb, .bool bb], fun wx hx => by
                  have h := HB.only (CS.at hx) hnB
                  have q0 := h.cell (o := 0) rfl
                  have q1 := h.cell (o := 1) rfl
                  have q2 := h.cell (o := 2) rfl
                  have q3 := h.cell (o := 3) rfl
                  have q4 := h.cell (o := 4) rfl
                  simp [go_sem, q0, q1, q2, q3, q4], ?_⟩
                go_big_quiet_on
                go_big_quiet_want
                go_big_quiet_op
                refine ⟨.agg #[.int .i64 (tk : Int), .bool nk, .int .i64 ik, .string xk, .bool bk], fun wx hx => by
                  have h := HD.only (CS.at hx) hnD
                  have q0 := h.cell (o := 0) rfl
                  have q1 := h.cell (o := 1) rfl
                  have q2 := h.cell (o := 2) rfl
                  have q3 := h.cell (o := 3) rfl
                  have q4 := h.cell (o := 4) rfl
                  simp [go_sem, q0, q1, q2, q3, q4], ?_⟩
                go_big_quiet_on
                refine wpQuiet_nil ?_
                refine part_step (s := 1) v1e (by go_simp; exact rfl) (by kernel_rfl) (by kernel_rfl) (fun H wx hs hn hp hc => ?_) ?_
                · refine callUpon_mk (f := 31) (args := #[.agg #[.int .i64 (tb : Int), .bool nb, .int .i64 ib, .string xb, .bool bb], .agg #[.int .i64 (tk : Int), .bool nk, .int .i64 ik, .string xk, .bool bk], .int .i64 (-1)]) (by simp [go_sem]) ?_
                  exact (hb2''.out wx).mono fun e w'' ⟨he, h2⟩ => ⟨_, he, hc.call (by decide) (by decide) rfl h2⟩
                refine part_chunk [] 7 _ _ _ (by kernel_rfl) (by kernel_rfl) (by decide) ?_
                simp only [List.take_succ_cons, List.take_zero, List.drop_succ_cons, List.drop_zero]
                go_big_quiet_want
                go_big_quiet_op
                first | go_big_quiet_on | (refine ⟨_, fun _ _ => rfl, ?_⟩; go_big_quiet_on)
                go_big_quiet_want
                go_big_quiet_op
                first | go_big_quiet_on | (refine ⟨_, fun _ _ => rfl, ?_⟩; go_big_quiet_on)
                go_big_quiet_want
                go_big_quiet_op
                first | go_big_quiet_on | (refine ⟨_, fun _ _ => rfl, ?_⟩; go_big_quiet_on)
                go_big_quiet_want
                go_big_quiet_op
                first | go_big_quiet_on | (refine ⟨_, fun _ _ => rfl, ?_⟩; go_big_quiet_on)
                go_big_quiet_want
                go_big_quiet_op
                first | go_big_quiet_on | (refine ⟨_, fun _ _ => rfl, ?_⟩; go_big_quiet_on)
                go_big_quiet_want
                go_big_quiet_op
                refine ⟨.agg #[.int .i64 (ta : Int), .bool na, .int .i64 ia, .string xa, .bool ba], fun wx hx => by
                  have h := HA.only (CS.at hx) hnA
                  have q0 := h.cell (o := 0) rfl
                  have q1 := h.cell (o := 1) rfl
                  have q2 := h.cell (o := 2) rfl
                  have q3 := h.cell (o := 3) rfl
                  have q4 := h.cell (o := 4) rfl
                  simp [go_sem, q0, q1, q2, q3, q4], ?_⟩
                go_big_quiet_on
                go_big_quiet_want
                go_big_quiet_op
                refine ⟨.agg #[.int .i64 (tc : Int), .bool nc, .int .i64 ic, .string xc, .bool bc], fun wx hx => by
                  have h := HC.only (CS.at hx) hnC
                  have q0 := h.cell (o := 0) rfl
                  have q1 := h.cell (o := 1) rfl
                  have q2 := h.cell (o := 2) rfl
                  have q3 := h.cell (o := 3) rfl
                  have q4 := h.cell (o := 4) rfl
                  simp [go_sem, q0, q1, q2, q3, q4], ?_⟩
                go_big_quiet_on
                refine wpQuiet_nil ?_
                refine part_step (s := 2) v2e (by go_simp; exact rfl) (by kernel_rfl) (by kernel_rfl) (fun H wx hs hn hp hc => ?_) ?_
                · refine callUpon_mk (f := 32) (args := #[.agg #[.int .i64 (ta : Int), .bool na, .int .i64 ia, .string xa, .bool ba], .agg #[.int .i64 (tc : Int), .bool nc, .int .i64 ic, .string xc, .bool bc]]) (by simp [go_sem]) ?_
                  exact (ho1.out wx).mono fun e w'' ⟨he, h2⟩ => ⟨_, he, hc.call (by decide) (by decide) rfl h2⟩
                refine part_chunk [] 4 _ _ _ (by kernel_rfl) (by kernel_rfl) (by decide) ?_
                simp only [List.take_succ_cons, List.take_zero, List.drop_succ_cons, List.drop_zero]
                go_big_quiet_want
                go_big_quiet_op
                first | go_big_quiet_on | (refine ⟨_, fun _ _ => rfl, ?_⟩; go_big_quiet_on)
                go_big_quiet_want
                go_big_quiet_op
                first | go_big_quiet_on | (refine ⟨_, fun _ _ => rfl, ?_⟩; go_big_quiet_on)
                go_big_quiet_skip
                go_big_quiet_skip
                refine wpQuiet_nil ?_
                refine part_skip (by go_simp; exact rfl) (by kernel_rfl) (by kernel_rfl) ?_
                refine part_chunk [] 1 _ _ _ (by kernel_rfl) (by kernel_rfl) (by decide) ?_
                simp only [List.take_succ_cons, List.take_zero, List.drop_succ_cons, List.drop_zero]
                go_big_quiet_want
                go_big_quiet_op
                first | go_big_quiet_on | (refine ⟨_, fun _ _ => rfl, ?_⟩; go_big_quiet_on)
                refine wpQuiet_nil ?_
                refine part_step (s := 3) v3e (by go_simp; exact rfl) (by kernel_rfl) (by kernel_rfl) (fun H wx hs hn hp hc => ?_) ?_
                · have g := hc.h4
                  have hno : H 3 = none := hn
                  rw [hno] at g
                  simp only [Option.isSome_none, Bool.false_eq_true, if_false, V5.l] at g
                  have q0 := g.cell (o := 0) rfl
                  have f0 := g.free 0
                  have q1 := g.cell (o := 1) rfl
                  have f1 := g.free 1
                  have q2 := g.cell (o := 2) rfl
                  have f2 := g.free 2
                  have q3 := g.cell (o := 3) rfl
                  have f3 := g.free 3
                  have q4 := g.cell (o := 4) rfl
                  have f4 := g.free 4
                  exact callUpon_skip (by simp [go_sem, q0, q1, q2, q3, q4, f0, f1, f2, f3, f4]; rfl) (hc.sto4 hPQ (by decide) rfl)
                refine part_step (s := 4) v4e (by go_simp; exact rfl) (by kernel_rfl) (by kernel_rfl) (fun H wx hs hn hp hc => ?_) ?_
                · have g := hc.h5
                  have hno : H 4 = none := hn
                  rw [hno] at g
                  simp only [Option.isSome_none, Bool.false_eq_true, if_false, V5.l] at g
                  have q0 := g.cell (o := 0) rfl
                  have f0 := g.free 0
                  have q1 := g.cell (o := 1) rfl
                  have f1 := g.free 1
                  have q2 := g.cell (o := 2) rfl
                  have f2 := g.free 2
                  have q3 := g.cell (o := 3) rfl
                  have f3 := g.free 3
                  have q4 := g.cell (o := 4) rfl
                  have f4 := g.free 4
                  exact callUpon_skip (by simp [go_sem, q0, q1, q2, q3, q4, f0, f1, f2, f3, f4]; rfl) (hc.sto5 hPQ (by decide) rfl)
                refine part_chunk [] 1 _ _ _ (by kernel_rfl) (by kernel_rfl) (by decide) ?_
                simp only [List.take_succ_cons, List.take_zero, List.drop_succ_cons, List.drop_zero]
                go_big_quiet_want
                go_big_quiet_op
                first | go_big_quiet_on | (refine ⟨_, fun _ _ => rfl, ?_⟩; go_big_quiet_on)
                refine wpQuiet_nil ?_
                intro wz hz
                obtain ⟨_, hZ4, hZ5, hZO⟩ := hz.done (by decide) (by decide)
                have hZ4 := Lib.hid hZ4
                have hZ5 := Lib.hid hZ5
                have hbz : Below w.heap.size w wz := hBw.out.trans (hZO.below (B := w.heap.size) hBw.out.size (fun k _ hk => by rcases hk with hk | hk <;> omega))
                have hf : post (.returned (.tuple #[.agg #[.int .i64 (tl : Int), .bool nl, .int .i64 il, .string xl, .bool bl'], .agg #[.int .i64 (th : Int), .bool nh, .int .i64 ih, .string xh, .bool bh], .bool false])) wz := by
                  rw [← hpost.out]
                
                  exact ⟨rfl, hbz⟩
                replace hf := Lib.hid hf
                have r0 := Lib.hid (hZ4.out.cell (o := 0) rfl)
                have r1 := Lib.hid (hZ4.out.cell (o := 1) rfl)
                have r2 := Lib.hid (hZ4.out.cell (o := 2) rfl)
                have r3 := Lib.hid (hZ4.out.cell (o := 3) rfl)
                have r4 := Lib.hid (hZ4.out.cell (o := 4) rfl)
                have s0 := Lib.hid (hZ5.out.cell (o := 0) rfl)
                have s1 := Lib.hid (hZ5.out.cell (o := 1) rfl)
                have s2 := Lib.hid (hZ5.out.cell (o := 2) rfl)
                have s3 := Lib.hid (hZ5.out.cell (o := 3) rfl)
                have s4 := Lib.hid (hZ5.out.cell (o := 4) rfl)
                clear hx hz hZO hbz
                go_wp2_with fail
                exact bodyPost_ret (v := .tuple #[.agg #[.int .i64 (tl : Int), .bool nl, .int .i64 il, .string xl, .bool bl'], .agg #[.int .i64 (th : Int), .bool nh, .int .i64 ih, .string xh, .bool bh], .bool false]) (by simp [results, Tryz.results12, go_sem, r0.out, r1.out, r2.out, r3.out, r4.out, s0.out, s1.out, s2.out, s3.out, s4.out]) rfl hf.out
              · refine wp_region_part [2, 5, 13, 18, 20, 21] [[], [], [], [], [0], [1]] [] (CS W3 (fun s => if s = 0 then some (.agg #[.int .i64 (tl : Int), .bool nl, .int .i64 il, .string xl, .bool bl']) else if s = 1 then some (.agg #[.int .i64 (th : Int), .bool nh, .int .i64 ih, .string xh, .bool bh]) else if s = 2 then some (.bool true) else if s = 3 then some (.bool o2) else if s = 4 then some (undef) else if s = 5 then some (undef) else none) (w.heap.size) (w.heap.size + 1) ⟨.int .i64 0, .bool false, .int .i64 0, .string ⟨#[]⟩, .bool false⟩ ⟨.int .i64 0, .bool false, .int .i64 0, .string ⟨#[]⟩, .bool false⟩ ⟨.int .i64 (tl : Int), .bool nl, .int .i64 il, .string xl, .bool bl'⟩ ⟨.int .i64 (th : Int), .bool nh, .int .i64 ih, .string xh, .bool bh⟩ 4 5 33) (by kernel_rfl) (by kernel_rfl) (by kernel_rfl) (CS.start HP HQ) (CS.ex hPQ (by decide) rfl rfl (fun s hs => by
                  match s, hs with
                  | 0, _ | 1, _ | 2, _ | 3, _ | 4, _ | 5, _ => exact ⟨_, rfl⟩
                )) (fun Hf hx => ?_)
                obtain ⟨w', hx⟩ := hx
                obtain ⟨hv, _⟩ := hx.done (by decide) (by decide)
                have v0e := hv 0 (by decide) _ rfl
                have v1e := hv 1 (by decide) _ rfl
                have v2e := hv 2 (by decide) _ rfl
                have v3e := hv 3 (by decide) _ rfl
                have v4e := hv 4 (by decide) _ rfl
                have v5e := hv 5 (by decide) _ rfl
                clear hv
                refine part_chunk [] 2 0 _ _ (by kernel_rfl) (by kernel_rfl) (by decide) ?_
                simp only [List.take_succ_cons, List.take_zero, List.drop_succ_cons, List.drop_zero]
                go_big_quiet_want
                go_big_quiet_op
                refine ⟨.agg #[.int .i64 (ta : Int), .bool na, .int .i64 ia, .string xa, .bool ba], fun wx hx => by
                  have h := HA.only (CS.at hx) hnA
                  have q0 := h.cell (o := 0) rfl
                  have q1 := h.cell (o := 1) rfl
                  have q2 := h.cell (o := 2) rfl
                  have q3 := h.cell (o := 3) rfl
                  have q4 := h.cell (o := 4) rfl
                  simp [go_sem, q0, q1, q2, q3, q4], ?_⟩
                go_big_quiet_on
                go_big_quiet_want
                go_big_quiet_op
                refine ⟨.agg #[.int .i64 (tc : Int), .bool nc, .int .i64 ic, .string xc, .bool bc], fun wx hx => by
                  have h := HC.only (CS.at hx) hnC
                  have q0 := h.cell (o := 0) rfl
                  have q1 := h.cell (o := 1) rfl
                  have q2 := h.cell (o := 2) rfl
                  have q3 := h.cell (o := 3) rfl
                  have q4 := h.cell (o := 4) rfl
                  simp [go_sem, q0, q1, q2, q3, q4], ?_⟩
                go_big_quiet_on
                refine wpQuiet_nil ?_
                refine part_step (s := 0) v0e (by go_simp; exact rfl) (by kernel_rfl) (by kernel_rfl) (fun H wx hs hn hp hc => ?_) ?_
                · refine callUpon_mk (f := 31) (args := #[.agg #[.int .i64 (ta : Int), .bool na, .int .i64 ia, .string xa, .bool ba], .agg #[.int .i64 (tc : Int), .bool nc, .int .i64 ic, .string xc, .bool bc], .int .i64 1]) (by simp [go_sem]) ?_
                  exact (hb1'.out wx).mono fun e w'' ⟨he, h2⟩ => ⟨_, he, hc.call (by decide) (by decide) rfl h2⟩
                refine part_chunk [] 2 _ _ _ (by kernel_rfl) (by kernel_rfl) (by decide) ?_
                simp only [List.take_succ_cons, List.take_zero, List.drop_succ_cons, List.drop_zero]
                go_big_quiet_want
                go_big_quiet_op
                refine ⟨.agg #[.int .i64 (tb : Int), .bool nb, .int .i64 ib, .string xb, .bool bb], fun wx hx => by
                  have h := HB.only (CS.at hx) hnB
                  have q0 := h.cell (o := 0) rfl
                  have q1 := h.cell (o := 1) rfl
                  have q2 := h.cell (o := 2) rfl
                  have q3 := h.cell (o := 3) rfl
                  have q4 := h.cell (o := 4) rfl
                  simp [go_sem, q0, q1, q2, q3, q4], ?_⟩
                go_big_quiet_on
                go_big_quiet_want
                go_big_quiet_op
                refine ⟨.agg #[.int .i64 (tk : Int), .bool nk, .int .i64 ik, .string xk, .bool bk], fun wx hx => by
                  have h := HD.only (CS.at hx) hnD
                  have q0 := h.cell (o := 0) rfl
                  have q1 := h.cell (o := 1) rfl
                  have q2 := h.cell (o := 2) rfl
                  have q3 := h.cell (o := 3) rfl
                  have q4 := h.cell (o := 4) rfl
                  simp [go_sem, q0, q1, q2, q3, q4], ?_⟩
                go_big_quiet_on
                refine wpQuiet_nil ?_
                refine part_step (s := 1) v1e (by go_simp; exact rfl) (by kernel_rfl) (by kernel_rfl) (fun H wx hs hn hp hc => ?_) ?_
                · refine callUpon_mk (f := 31) (args := #[.agg #[.int .i64 (tb : Int), .bool nb, .int .i64 ib, .string xb, .bool bb], .agg #[.int .i64 (tk : Int), .bool nk, .int .i64 ik, .string xk, .bool bk], .int .i64 (-1)]) (by simp [go_sem]) ?_
                  exact (hb2''.out wx).mono fun e w'' ⟨he, h2⟩ => ⟨_, he, hc.call (by decide) (by decide) rfl h2⟩
                refine part_chunk [] 7 _ _ _ (by kernel_rfl) (by kernel_rfl) (by decide) ?_
                simp only [List.take_succ_cons, List.take_zero, List.drop_succ_cons, List.drop_zero]
                go_big_quiet_want
                go_big_quiet_op
                first | go_big_quiet_on | (refine ⟨_, fun _ _ => rfl, ?_⟩; go_big_quiet_on)
                go_big_quiet_want
                go_big_quiet_op
                first | go_big_quiet_on | (refine ⟨_, fun _ _ => rfl, ?_⟩; go_big_quiet_on)
                go_big_quiet_want
                go_big_quiet_op
                first | go_big_quiet_on | (refine ⟨_, fun _ _ => rfl, ?_⟩; go_big_quiet_on)
                go_big_quiet_want
                go_big_quiet_op
                first | go_big_quiet_on | (refine ⟨_, fun _ _ => rfl, ?_⟩; go_big_quiet_on)
                go_big_quiet_want
                go_big_quiet_op
                first | go_big_quiet_on | (refine ⟨_, fun _ _ => rfl, ?_⟩; go_big_quiet_on)
                go_big_quiet_want
                go_big_quiet_op
                refine ⟨.agg #[.int .i64 (ta : Int), .bool na, .int .i64 ia, .string xa, .bool ba], fun wx hx => by
                  have h := HA.only (CS.at hx) hnA
                  have q0 := h.cell (o := 0) rfl
                  have q1 := h.cell (o := 1) rfl
                  have q2 := h.cell (o := 2) rfl
                  have q3 := h.cell (o := 3) rfl
                  have q4 := h.cell (o := 4) rfl
                  simp [go_sem, q0, q1, q2, q3, q4], ?_⟩
                go_big_quiet_on
                go_big_quiet_want
                go_big_quiet_op
                refine ⟨.agg #[.int .i64 (tc : Int), .bool nc, .int .i64 ic, .string xc, .bool bc], fun wx hx => by
                  have h := HC.only (CS.at hx) hnC
                  have q0 := h.cell (o := 0) rfl
                  have q1 := h.cell (o := 1) rfl
                  have q2 := h.cell (o := 2) rfl
                  have q3 := h.cell (o := 3) rfl
                  have q4 := h.cell (o := 4) rfl
                  simp [go_sem, q0, q1, q2, q3, q4], ?_⟩
                go_big_quiet_on
                refine wpQuiet_nil ?_
                refine part_step (s := 2) v2e (by go_simp; exact rfl) (by kernel_rfl) (by kernel_rfl) (fun H wx hs hn hp hc => ?_) ?_
                · refine callUpon_mk (f := 32) (args := #[.agg #[.int .i64 (ta : Int), .bool na, .int .i64 ia, .string xa, .bool ba], .agg #[.int .i64 (tc : Int), .bool nc, .int .i64 ic, .string xc, .bool bc]]) (by simp [go_sem]) ?_
                  exact (ho1.out wx).mono fun e w'' ⟨he, h2⟩ => ⟨_, he, hc.call (by decide) (by decide) rfl h2⟩
                refine part_chunk [] 4 _ _ _ (by kernel_rfl) (by kernel_rfl) (by decide) ?_
                simp only [List.take_succ_cons, List.take_zero, List.drop_succ_cons, List.drop_zero]
                go_big_quiet_want
                go_big_quiet_op
                first | go_big_quiet_on | (refine ⟨_, fun _ _ => rfl, ?_⟩; go_big_quiet_on)
                go_big_quiet_want
                go_big_quiet_op
                first | go_big_quiet_on | (refine ⟨_, fun _ _ => rfl, ?_⟩; go_big_quiet_on)
                go_big_quiet_want
                go_big_quiet_op
                refine ⟨.agg #[.int .i64 (tb : Int), .bool nb, .int .i64 ib, .string xb, .bool bb], fun wx hx => by
                  have h := HB.only (CS.at hx) hnB
                  have q0 := h.cell (o := 0) rfl
                  have q1 := h.cell (o := 1) rfl
                  have q2 := h.cell (o := 2) rfl
                  have q3 := h.cell (o := 3) rfl
                  have q4 := h.cell (o := 4) rfl
                  simp [go_sem, q0, q1, q2, q3, q4], ?_⟩
                go_big_quiet_on
                go_big_quiet_want
                go_big_quiet_op
                refine ⟨.agg #[.int .i64 (tk : Int), .bool nk, .int .i64 ik, .string xk, .bool bk], fun wx hx => by
                  have h := HD.only (CS.at hx) hnD
                  have q0 := h.cell (o := 0) rfl
                  have q1 := h.cell (o := 1) rfl
                  have q2 := h.cell (o := 2) rfl
                  have q3 := h.cell (o := 3) rfl
                  have q4 := h.cell (o := 4) rfl
                  simp [go_sem, q0, q1, q2, q3, q4], ?_⟩
                go_big_quiet_on
                refine wpQuiet_nil ?_
                refine part_step (s := 3) v3e (by go_simp; exact rfl) (by kernel_rfl) (by kernel_rfl) (fun H wx hs hn hp hc => ?_) ?_
                · refine callUpon_mk (f := 32) (args := #[.agg #[.int .i64 (tb : Int), .bool nb, .int .i64 ib, .string xb, .bool bb], .agg #[.int .i64 (tk : Int), .bool nk, .int .i64 ik, .string xk, .bool bk]]) (by simp [go_sem]) ?_
                  exact (ho2.out wx).mono fun e w'' ⟨he, h2⟩ => ⟨_, he, hc.call (by decide) (by decide) rfl h2⟩
                refine part_chunk [] 1 _ _ _ (by kernel_rfl) (by kernel_rfl) (by decide) ?_
                simp only [List.take_succ_cons, List.take_zero, List.drop_succ_cons, List.drop_zero]
                go_big_quiet_want
                go_big_quiet_op
                first | go_big_quiet_on | (refine ⟨_, fun _ _ => rfl, ?_⟩; go_big_quiet_on)
                refine wpQuiet_nil ?_
                refine part_step (s := 4) v4e (by go_simp; exact rfl) (by kernel_rfl) (by kernel_rfl) (fun H wx hs hn hp hc => ?_) ?_
                · have g := hc.h4
                  have hno : H 4 = none := hn
                  rw [hno] at g
                  simp only [Option.isSome_none, Bool.false_eq_true, if_false, V5.l] at g
                  have q0 := g.cell (o := 0) rfl
                  have f0 := g.free 0
                  have q1 := g.cell (o := 1) rfl
                  have f1 := g.free 1
                  have q2 := g.cell (o := 2) rfl
                  have f2 := g.free 2
                  have q3 := g.cell (o := 3) rfl
                  have f3 := g.free 3
                  have q4 := g.cell (o := 4) rfl
                  have f4 := g.free 4
                  exact callUpon_skip (by simp [go_sem, q0, q1, q2, q3, q4, f0, f1, f2, f3, f4]; rfl) (hc.sto4 hPQ (by decide) rfl)
                refine part_step (s := 5) v5e (by go_simp; exact rfl) (by kernel_rfl) (by kernel_rfl) (fun H wx hs hn hp hc => ?_) ?_
                · have g := hc.h5
                  have hno : H 5 = none := hn
                  rw [hno] at g
                  simp only [Option.isSome_none, Bool.false_eq_true, if_false, V5.l] at g
                  have q0 := g.cell (o := 0) rfl
                  have f0 := g.free 0
                  have q1 := g.cell (o := 1) rfl
                  have f1 := g.free 1
                  have q2 := g.cell (o := 2) rfl
                  have f2 := g.free 2
                  have q3 := g.cell (o := 3) rfl
                  have f3 := g.free 3
                  have q4 := g.cell (o := 4) rfl
                  have f4 := g.free 4
                  exact callUpon_skip (by simp [go_sem, q0, q1, q2, q3, q4, f0, f1, f2, f3, f4]; rfl) (hc.sto5 hPQ (by decide) rfl)
                refine part_chunk [] 1 _ _ _ (by kernel_rfl) (by kernel_rfl) (by decide) ?_
                simp only [List.take_succ_cons, List.take_zero, List.drop_succ_cons, List.drop_zero]
                go_big_quiet_want
                go_big_quiet_op
                first | go_big_quiet_on | (refine ⟨_, fun _ _ => rfl, ?_⟩; go_big_quiet_on)
                refine wpQuiet_nil ?_
                intro wz hz
                obtain ⟨_, hZ4, hZ5, hZO⟩ := hz.done (by decide) (by decide)
                have hZ4 := Lib.hid hZ4
                have hZ5 := Lib.hid hZ5
                have hbz : Below w.heap.size w wz := hBw.out.trans (hZO.below (B := w.heap.size) hBw.out.size (fun k _ hk => by rcases hk with hk | hk <;> omega))
                have hf : post (.returned (.tuple #[.agg #[.int .i64 (tl : Int), .bool nl, .int .i64 il, .string xl, .bool bl'], .agg #[.int .i64 (th : Int), .bool nh, .int .i64 ih, .string xh, .bool bh], .bool o2])) wz := by
                  rw [← hpost.out]
                
                  exact ⟨rfl, hbz⟩
                replace hf := Lib.hid hf
                have r0 := Lib.hid (hZ4.out.cell (o := 0) rfl)
                have r1 := Lib.hid (hZ4.out.cell (o := 1) rfl)
                have r2 := Lib.hid (hZ4.out.cell (o := 2) rfl)
                have r3 := Lib.hid (hZ4.out.cell (o := 3) rfl)
                have r4 := Lib.hid (hZ4.out.cell (o := 4) rfl)
                have s0 := Lib.hid (hZ5.out.cell (o := 0) rfl)
                have s1 := Lib.hid (hZ5.out.cell (o := 1) rfl)
                have s2 := Lib.hid (hZ5.out.cell (o := 2) rfl)
                have s3 := Lib.hid (hZ5.out.cell (o := 3) rfl)
                have s4 := Lib.hid (hZ5.out.cell (o := 4) rfl)
                clear hx hz hZO hbz
                go_wp2_with fail
                exact bodyPost_ret (v := .tuple #[.agg #[.int .i64 (tl : Int), .bool nl, .int .i64 il, .string xl, .bool bl'], .agg #[.int .i64 (th : Int), .bool nh, .int .i64 ih, .string xh, .bool bh], .bool o2]) (by simp [results, Tryz.results12, go_sem, r0.out, r1.out, r2.out, r3.out, r4.out, s0.out, s1.out, s2.out, s3.out, s4.out]) rfl hf.out
        · have d1 : (((2 : Nat) : Int) == 1) = false := rfl
          rw [if_neg (by decide)] at hpost
          have hb1' := fun w => reither_any ⟨ta, na, ia, xa, ba⟩ ⟨tc, nc, ic, xc, bc⟩ (-1) (.inr rfl) ha2 hc2 w
          have hb2'' := fun w => reither_any ⟨tb, nb, ib, xb, bb⟩ ⟨tk, nk, ik, xk, bk⟩ 1 (.inl rfl) hb2 hd2 w
          have hlo := lowO_same ⟨ta, na, ia, xa, ba⟩ ⟨tc, nc, ic, xc, bc⟩
          have hhi := highO_same ⟨tb, nb, ib, xb, bb⟩ ⟨tk, nk, ik, xk, bk⟩
          have hbo : eitherP ⟨⟨ta, na, ia, xa, ba⟩, ⟨tb, nb, ib, xb, bb⟩, ea⟩ ⟨⟨tc, nc, ic, xc, bc⟩, ⟨tk, nk, ik, xk, bk⟩, ed⟩ = ⟨lowO ⟨ta, na, ia, xa, ba⟩ ⟨tc, nc, ic, xc, bc⟩, highO ⟨tb, nb, ib, xb, bb⟩ ⟨tk, nk, ik, xk, bk⟩, false⟩ := rfl
          rw [hlo, hhi] at hbo
          rw [hbo] at hpost
          generalize eitherR ⟨ta, na, ia, xa, ba⟩ ⟨tc, nc, ic, xc, bc⟩ (-1) = l1 at *
          generalize eitherR ⟨tb, nb, ib, xb, bb⟩ ⟨tk, nk, ik, xk, bk⟩ 1 = l2 at *
          obtain ⟨tl, nl, il, xl, bl'⟩ := l1
          obtain ⟨th, nh, ih, xh, bh⟩ := l2
          unfold RV.rval at hb1' hb2''
          dsimp only at hb1' hb2''
          clear hlo hhi hbo
          replace hpost := Lib.hid hpost
          replace hb1' := Lib.hid hb1'
          replace hb2'' := Lib.hid hb2'' 
          go_upto_region 8 with fail
          clear cE0
          refine wp_region_part [2, 5, 6, 7] [[], [], [0], [1]] [] (CS W3 (fun s => if s = 0 then some (.agg #[.int .i64 (tl : Int), .bool nl, .int .i64 il, .string xl, .bool bl']) else if s = 1 then some (.agg #[.int .i64 (th : Int), .bool nh, .int .i64 ih, .string xh, .bool bh]) else if s = 2 then some (undef) else if s = 3 then some (undef) else none) (w.heap.size) (w.heap.size + 1) ⟨.int .i64 0, .bool false, .int .i64 0, .string ⟨#[]⟩, .bool false⟩ ⟨.int .i64 0, .bool false, .int .i64 0, .string ⟨#[]⟩, .bool false⟩ ⟨.int .i64 (tl : Int), .bool nl, .int .i64 il, .string xl, .bool bl'⟩ ⟨.int .i64 (th : Int), .bool nh, .int .i64 ih, .string xh, .bool bh⟩ 2 3 33) (by kernel_rfl) (by kernel_rfl) (by kernel_rfl) (CS.start HP HQ) (CS.ex hPQ (by decide) rfl rfl (fun s hs => by
            match s, hs with
            | 0, _ | 1, _ | 2, _ | 3, _ => exact ⟨_, rfl⟩
          )) (fun Hf hx => ?_)
          obtain ⟨w', hx⟩ := hx
          obtain ⟨hv, _⟩ := hx.done (by decide) (by decide)
          have v0e := hv 0 (by decide) _ rfl
          have v1e := hv 1 (by decide) _ rfl
          have v2e := hv 2 (by decide) _ rfl
          have v3e := hv 3 (by decide) _ rfl
          clear hv
          refine part_chunk [] 2 0 _ _ (by kernel_rfl) (by kernel_rfl) (by decide) ?_
          simp only [List.take_succ_cons, List.take_zero, List.drop_succ_cons, List.drop_zero]
          go_big_quiet_want
          go_big_quiet_op
          refine ⟨.agg #[.int .i64 (ta : Int), .bool na, .int .i64 ia, .string xa, .bool ba], fun wx hx => by
            have h := HA.only (CS.at hx) hnA
            have q0 := h.cell (o := 0) rfl
            have q1 := h.cell (o := 1) rfl
            have q2 := h.cell (o := 2) rfl
            have q3 := h.cell (o := 3) rfl
            have q4 := h.cell (o := 4) rfl
            simp [go_sem, q0, q1, q2, q3, q4], ?_⟩
          go_big_quiet_on
          go_big_quiet_want
          go_big_quiet_op
          refine ⟨.agg #[.int .i64 (tc : Int), .bool nc, .int .i64 ic, .string xc, .bool bc], fun wx hx => by
            have h := HC.only (CS.at hx) hnC
            have q0 := h.cell (o := 0) rfl
            have q1 := h.cell (o := 1) rfl
            have q2 := h.cell (o := 2) rfl
            have q3 := h.cell (o := 3) rfl
            have q4 := h.cell (o := 4) rfl
            simp [go_sem, q0, q1, q2, q3, q4], ?_⟩
          go_big_quiet_on
          refine wpQuiet_nil ?_
          refine part_step (s := 0) v0e (by go_simp; exact rfl) (by kernel_rfl) (by kernel_rfl) (fun H wx hs hn hp hc => ?_) ?_
          · refine callUpon_mk (f := 33) (args := #[.agg #[.int .i64 (ta : Int), .bool na, .int .i64 ia, .string xa, .bool ba], .agg #[.int .i64 (tc : Int), .bool nc, .int .i64 ic, .string xc, .bool bc], .int .i64 (-1)]) (by simp [go_sem]) ?_
            exact (hb1'.out wx).mono fun e w'' ⟨he, h2⟩ => ⟨_, he, hc.call (by decide) (by decide) rfl h2⟩
          refine part_chunk [] 2 _ _ _ (by kernel_rfl) (by kernel_rfl) (by decide) ?_
          simp only [List.take_succ_cons, List.take_zero, List.drop_succ_cons, List.drop_zero]
          go_big_quiet_want
          go_big_quiet_op
          refine ⟨.agg #[.int .i64 (tb : Int), .bool nb, .int .i64 ib, .string xb, .bool bb], fun wx hx => by
            have h := HB.only (CS.at hx) hnB
            have q0 := h.cell (o := 0) rfl
            have q1 := h.cell (o := 1) rfl
            have q2 := h.cell (o := 2) rfl
            have q3 := h.cell (o := 3) rfl
            have q4 := h.cell (o := 4) rfl
            simp [go_sem, q0, q1, q2, q3, q4], ?_⟩
          go_big_quiet_on
          go_big_quiet_want
          go_big_quiet_op
          refine ⟨.agg #[.int .i64 (tk : Int), .bool nk, .int .i64 ik, .string xk, .bool bk], fun wx hx => by
            have h := HD.only (CS.at hx) hnD
            have q0 := h.cell (o := 0) rfl
            have q1 := h.cell (o := 1) rfl
            have q2 := h.cell (o := 2) rfl
            have q3 := h.cell (o := 3) rfl
            have q4 := h.cell (o := 4) rfl
            simp [go_sem, q0, q1, q2, q3, q4], ?_⟩
          go_big_quiet_on
          refine wpQuiet_nil ?_
          refine part_step (s := 1) v1e (by go_simp; exact rfl) (by kernel_rfl) (by kernel_rfl) (fun H wx hs hn hp hc => ?_) ?_
          · refine callUpon_mk (f := 33) (args := #[.agg #[.int .i64 (tb : Int), .bool nb, .int .i64 ib, .string xb, .bool bb], .agg #[.int .i64 (tk : Int), .bool nk, .int .i64 ik, .string xk, .bool bk], .int .i64 1]) (by simp [go_sem]) ?_
            exact (hb2''.out wx).mono fun e w'' ⟨he, h2⟩ => ⟨_, he, hc.call (by decide) (by decide) rfl h2⟩
          refine part_step (s := 2) v2e (by go_simp; exact rfl) (by kernel_rfl) (by kernel_rfl) (fun H wx hs hn hp hc => ?_) ?_
          · have g := hc.h4
            have hno : H 2 = none := hn
            rw [hno] at g
            simp only [Option.isSome_none, Bool.false_eq_true, if_false, V5.l] at g
            have q0 := g.cell (o := 0) rfl
            have f0 := g.free 0
            have q1 := g.cell (o := 1) rfl
            have f1 := g.free 1
            have q2 := g.cell (o := 2) rfl
            have f2 := g.free 2
            have q3 := g.cell (o := 3) rfl
            have f3 := g.free 3
            have q4 := g.cell (o := 4) rfl
            have f4 := g.free 4
            exact callUpon_skip (by simp [go_sem, q0, q1, q2, q3, q4, f0, f1, f2, f3, f4]; rfl) (hc.sto4 hPQ (by decide) rfl)
          refine part_step (s := 3) v3e (by go_simp; exact rfl) (by kernel_rfl) (by kernel_rfl) (fun H wx hs hn hp hc => ?_) ?_
          · have g := hc.h5
            have hno : H 3 = none := hn
            rw [hno] at g
            simp only [Option.isSome_none, Bool.false_eq_true, if_false, V5.l] at g
            have q0 := g.cell (o := 0) rfl
            have f0 := g.free 0
            have q1 := g.cell (o := 1) rfl
            have f1 := g.free 1
            have q2 := g.cell (o := 2) rfl
            have f2 := g.free 2
            have q3 := g.cell (o := 3) rfl
            have f3 := g.free 3
            have q4 := g.cell (o := 4) rfl
            have f4 := g.free 4
            exact callUpon_skip (by simp [go_sem, q0, q1, q2, q3, q4, f0, f1, f2, f3, f4]; rfl) (hc.sto5 hPQ (by decide) rfl)
          refine part_chunk [] 1 _ _ _ (by kernel_rfl) (by kernel_rfl) (by decide) ?_
          simp only [List.take_succ_cons, List.take_zero, List.drop_succ_cons, List.drop_zero]
          go_big_quiet_want
          go_big_quiet_op
          first | go_big_quiet_on | (refine ⟨_, fun _ _ => rfl, ?_⟩; go_big_quiet_on)
          refine wpQuiet_nil ?_
          intro wz hz
          obtain ⟨_, hZ4, hZ5, hZO⟩ := hz.done (by decide) (by decide)
          have hZ4 := Lib.hid hZ4
          have hZ5 := Lib.hid hZ5
          have hbz : Below w.heap.size w wz := hBw.out.trans (hZO.below (B := w.heap.size) hBw.out.size (fun k _ hk => by rcases hk with hk | hk <;> omega))
          have hf : post (.returned (.tuple #[.agg #[.int .i64 (tl : Int), .bool nl, .int .i64 il, .string xl, .bool bl'], .agg #[.int .i64 (th : Int), .bool nh, .int .i64 ih, .string xh, .bool bh], .bool false])) wz := by
            rw [← hpost.out]
          
            exact ⟨rfl, hbz⟩
          replace hf := Lib.hid hf
          have r0 := Lib.hid (hZ4.out.cell (o := 0) rfl)
          have r1 := Lib.hid (hZ4.out.cell (o := 1) rfl)
          have r2 := Lib.hid (hZ4.out.cell (o := 2) rfl)
          have r3 := Lib.hid (hZ4.out.cell (o := 3) rfl)
          have r4 := Lib.hid (hZ4.out.cell (o := 4) rfl)
          have s0 := Lib.hid (hZ5.out.cell (o := 0) rfl)
          have s1 := Lib.hid (hZ5.out.cell (o := 1) rfl)
          have s2 := Lib.hid (hZ5.out.cell (o := 2) rfl)
          have s3 := Lib.hid (hZ5.out.cell (o := 3) rfl)
          have s4 := Lib.hid (hZ5.out.cell (o := 4) rfl)
          clear hx hz hZO hbz
          go_wp2_with fail
          exact bodyPost_ret (v := .tuple #[.agg #[.int .i64 (tl : Int), .bool nl, .int .i64 il, .string xl, .bool bl'], .agg #[.int .i64 (th : Int), .bool nh, .int .i64 ih, .string xh, .bool bh], .bool false]) (by simp [results, Tryz.results12, go_sem, r0.out, r1.out, r2.out, r3.out, r4.out, s0.out, s1.out, s2.out, s3.out, s4.out]) rfl hf.out
      · have hpf : pairB op l r = false := by simpa using hpair
        have hval : bndP col (.node b op cc ⟨tv, nv, iv, xv, bv⟩ l r) = simpP op cc col ⟨tv, nv, iv, xv, bv⟩ := by unfold bndP; rw [if_neg hpair]
        rw [hval] at hpost
        rw [hpf]
        replace hpf := Lib.hid hpf
        replace hpair := Lib.hid hpair
        clear hval ihl ihr hLt hRt
        have hnE : ¬ (b = w.heap.size ∨ b = w.heap.size + 1) := by omega
        have hPQ : w.heap.size ≠ w.heap.size + 1 := by omega
        have hBw := Lib.hid hbW1
        have hEB := Lib.hid HE
        by_cases hcc : cc = col
        · have hs : (cc.toList == col.toList) = true := by rw [str_eq]; exact decide_eq_true hcc
          replace hcc := Lib.hid hcc
          cases nv with
          | true =>
            have hsv : simpP op cc col ⟨tv, true, iv, xv, bv⟩ = ⟨RVN, RVN, false⟩ := by unfold simpP; simp only [ne_eq, not_true_eq_false, not_false_eq_true, false_or, true_or, or_true, or_false, if_true, if_false, Bool.false_eq_true, hcc.out] <;> rfl
            rw [hsv] at hpost
            clear hsv
            have cE0 := HE.cell (o := 0) rfl
            have cE1 := HE.cell (o := 1) rfl
            have cE2 := HE.cell (o := 2) rfl
            have cE3 := HE.cell (o := 3) rfl
            have cE4 := HE.cell (o := 4) rfl
            have cE5 := HE.cell (o := 5) rfl
            have cE6 := HE.cell (o := 6) rfl
            have cE7 := HE.cell (o := 7) rfl
            have cE8 := HE.cell (o := 8) rfl
            replace hzW1 := Lib.hid hzW1
            go_wp2_with fail
            refine (hno.out _).mono ?_
            rintro e wn1 ⟨rfl, hn1⟩
            replace hzW1 := hzW1.out
            replace HE : Has wn1 (b) [.int .i64 (op : Int), l.ptr, r.ptr, .string cc, .int .i64 (tv : Int), .bool true, .int .i64 iv, .string xv, .bool bv] 97 := HE.only (Only.of_below hn1) (Nat.not_le.2 HE.lt)
            replace HP : Has wn1 (w.heap.size) [.int .i64 0, .bool false, .int .i64 0, .string ⟨#[]⟩, .bool false] 33 := HP.only (Only.of_below hn1) (Nat.not_le.2 HP.lt)
            replace HQ : Has wn1 (w.heap.size + 1) [.int .i64 0, .bool false, .int .i64 0, .string ⟨#[]⟩, .bool false] 33 := HQ.only (Only.of_below hn1) (Nat.not_le.2 HQ.lt)
            have hbwn1 : Below w.heap.size w wn1 := hbW1.trans (hn1.mono hbW1.size)
            have hzwn1 := hn1.size
            replace hn1 := Lib.hid hn1
            replace hzW1 := Lib.hid hzW1
            go_wp2_with fail
            refine (hno.out _).mono ?_
            rintro e wn2 ⟨rfl, hn2⟩
            replace hzW1 := hzW1.out
            replace HE : Has wn2 (b) [.int .i64 (op : Int), l.ptr, r.ptr, .string cc, .int .i64 (tv : Int), .bool true, .int .i64 iv, .string xv, .bool bv] 97 := HE.only (Only.of_below hn2) (Nat.not_le.2 HE.lt)
            replace HP : Has wn2 (w.heap.size) [.int .i64 0, .bool false, .int .i64 0, .string ⟨#[]⟩, .bool false] 33 := HP.only (Only.of_below hn2) (Nat.not_le.2 HP.lt)
            replace HQ : Has wn2 (w.heap.size + 1) [.int .i64 0, .bool false, .int .i64 0, .string ⟨#[]⟩, .bool false] 33 := HQ.only (Only.of_below hn2) (Nat.not_le.2 HQ.lt)
            have hbwn2 : Below w.heap.size w wn2 := hbwn1.trans (hn2.mono hbwn1.size)
            have hzwn2 := hn2.size
            replace hn2 := Lib.hid hn2
            clear cE0 cE1 cE2 cE3 cE4 cE5 cE6 cE7 cE8
            have cP0 := HP.cell (o := 0) rfl
            have cP1 := HP.cell (o := 1) rfl
            have cP2 := HP.cell (o := 2) rfl
            have cP3 := HP.cell (o := 3) rfl
            have cP4 := HP.cell (o := 4) rfl
            have cQ0 := HQ.cell (o := 0) rfl
            have cQ1 := HQ.cell (o := 1) rfl
            have cQ2 := HQ.cell (o := 2) rfl
            have cQ3 := HQ.cell (o := 3) rfl
            have cQ4 := HQ.cell (o := 4) rfl
            have fP0 := HP.free 0
            have fP1 := HP.free 1
            have fP2 := HP.free 2
            have fP3 := HP.free 3
            have fP4 := HP.free 4
            have fQ0 := HQ.free 0
            have fQ1 := HQ.free 1
            have fQ2 := HQ.free 2
            have fQ3 := HQ.free 3
            have fQ4 := HQ.free 4
            obtain ⟨W2, hW2⟩ : ∃ W2, W2 = ((((wn2.setCell ⟨w.heap.size, 0, none⟩ (.int .i64 0)).setCell ⟨w.heap.size, 1, none⟩ (.bool true)).setCell ⟨w.heap.size, 2, none⟩ (.int .i64 0)).setCell ⟨w.heap.size, 3, none⟩ (.string ⟨#[]⟩)).setCell ⟨w.heap.size, 4, none⟩ (.bool false) := ⟨_, rfl⟩
            replace HE : Has W2 (b) [.int .i64 (op : Int), l.ptr, r.ptr, .string cc, .int .i64 (tv : Int), .bool true, .int .i64 iv, .string xv, .bool bv] 97 := by rw [hW2]; exact (((((HE.set_ne (a := ⟨w.heap.size, 0, none⟩) (by first | (simp; done) | (simp; omega) | omega) _).set_ne (a := ⟨w.heap.size, 1, none⟩) (by first | (simp; done) | (simp; omega) | omega) _).set_ne (a := ⟨w.heap.size, 2, none⟩) (by first | (simp; done) | (simp; omega) | omega) _).set_ne (a := ⟨w.heap.size, 3, none⟩) (by first | (simp; done) | (simp; omega) | omega) _).set_ne (a := ⟨w.heap.size, 4, none⟩) (by first | (simp; done) | (simp; omega) | omega) _)
            replace HQ : Has W2 (w.heap.size + 1) [.int .i64 0, .bool false, .int .i64 0, .string ⟨#[]⟩, .bool false] 33 := by rw [hW2]; exact (((((HQ.set_ne (a := ⟨w.heap.size, 0, none⟩) (by first | (simp; done) | (simp; omega) | omega) _).set_ne (a := ⟨w.heap.size, 1, none⟩) (by first | (simp; done) | (simp; omega) | omega) _).set_ne (a := ⟨w.heap.size, 2, none⟩) (by first | (simp; done) | (simp; omega) | omega) _).set_ne (a := ⟨w.heap.size, 3, none⟩) (by first | (simp; done) | (simp; omega) | omega) _).set_ne (a := ⟨w.heap.size, 4, none⟩) (by first | (simp; done) | (simp; omega) | omega) _)
            replace HP : Has W2 (w.heap.size) [.int .i64 0, .bool true, .int .i64 0, .string ⟨#[]⟩, .bool false] 33 := by rw [hW2]; exact (((((HP.set 0 (.int .i64 0)).set 1 (.bool true)).set 2 (.int .i64 0)).set 3 (.string ⟨#[]⟩)).set 4 (.bool false))
            have hbW2 : Below w.heap.size w W2 := by rw [hW2]; exact (((((hbwn2.setCell (p := ⟨w.heap.size, 0, none⟩) (by first | exact Nat.le_refl _ | (simp; done) | (simp; omega) | omega) _).setCell (p := ⟨w.heap.size, 1, none⟩) (by first | exact Nat.le_refl _ | (simp; done) | (simp; omega) | omega) _).setCell (p := ⟨w.heap.size, 2, none⟩) (by first | exact Nat.le_refl _ | (simp; done) | (simp; omega) | omega) _).setCell (p := ⟨w.heap.size, 3, none⟩) (by first | exact Nat.le_refl _ | (simp; done) | (simp; omega) | omega) _).setCell (p := ⟨w.heap.size, 4, none⟩) (by first | exact Nat.le_refl _ | (simp; done) | (simp; omega) | omega) _)
            have hzW2 : W2.heap.size = wn2.heap.size := by rw [hW2]; simp
            replace hW2 := Lib.hid hW2
            obtain ⟨W3, hW3⟩ : ∃ W3, W3 = ((((W2.setCell ⟨w.heap.size + 1, 0, none⟩ (.int .i64 0)).setCell ⟨w.heap.size + 1, 1, none⟩ (.bool true)).setCell ⟨w.heap.size + 1, 2, none⟩ (.int .i64 0)).setCell ⟨w.heap.size + 1, 3, none⟩ (.string ⟨#[]⟩)).setCell ⟨w.heap.size + 1, 4, none⟩ (.bool false) := ⟨_, rfl⟩
            replace HE : Has W3 (b) [.int .i64 (op : Int), l.ptr, r.ptr, .string cc, .int .i64 (tv : Int), .bool true, .int .i64 iv, .string xv, .bool bv] 97 := by rw [hW3]; exact (((((HE.set_ne (a := ⟨w.heap.size + 1, 0, none⟩) (by first | (simp; done) | (simp; omega) | omega) _).set_ne (a := ⟨w.heap.size + 1, 1, none⟩) (by first | (simp; done) | (simp; omega) | omega) _).set_ne (a := ⟨w.heap.size + 1, 2, none⟩) (by first | (simp; done) | (simp; omega) | omega) _).set_ne (a := ⟨w.heap.size + 1, 3, none⟩) (by first | (simp; done) | (simp; omega) | omega) _).set_ne (a := ⟨w.heap.size + 1, 4, none⟩) (by first | (simp; done) | (simp; omega) | omega) _)
            replace HP : Has W3 (w.heap.size) [.int .i64 0, .bool true, .int .i64 0, .string ⟨#[]⟩, .bool false] 33 := by rw [hW3]; exact (((((HP.set_ne (a := ⟨w.heap.size + 1, 0, none⟩) (by first | (simp; done) | (simp; omega) | omega) _).set_ne (a := ⟨w.heap.size + 1, 1, none⟩) (by first | (simp; done) | (simp; omega) | omega) _).set_ne (a := ⟨w.heap.size + 1, 2, none⟩) (by first | (simp; done) | (simp; omega) | omega) _).set_ne (a := ⟨w.heap.size + 1, 3, none⟩) (by first | (simp; done) | (simp; omega) | omega) _).set_ne (a := ⟨w.heap.size + 1, 4, none⟩) (by first | (simp; done) | (simp; omega) | omega) _)
            replace HQ : Has W3 (w.heap.size + 1) [.int .i64 0, .bool true, .int .i64 0, .string ⟨#[]⟩, .bool false] 33 := by rw [hW3]; exact (((((HQ.set 0 (.int .i64 0)).set 1 (.bool true)).set 2 (.int .i64 0)).set 3 (.string ⟨#[]⟩)).set 4 (.bool false))
            have hbW3 : Below w.heap.size w W3 := by rw [hW3]; exact (((((hbW2.setCell (p := ⟨w.heap.size + 1, 0, none⟩) (by first | exact Nat.le_refl _ | (simp; done) | (simp; omega) | omega) _).setCell (p := ⟨w.heap.size + 1, 1, none⟩) (by first | exact Nat.le_refl _ | (simp; done) | (simp; omega) | omega) _).setCell (p := ⟨w.heap.size + 1, 2, none⟩) (by first | exact Nat.le_refl _ | (simp; done) | (simp; omega) | omega) _).setCell (p := ⟨w.heap.size + 1, 3, none⟩) (by first | exact Nat.le_refl _ | (simp; done) | (simp; omega) | omega) _).setCell (p := ⟨w.heap.size + 1, 4, none⟩) (by first | exact Nat.le_refl _ | (simp; done) | (simp; omega) | omega) _)
            have hzW3 : W3.heap.size = W2.heap.size := by rw [hW3]; simp
            replace hW3 := Lib.hid hW3
            have hf : post (.returned (.tuple #[.agg #[.int .i64 0, .bool true, .int .i64 0, .string ⟨#[]⟩, .bool false], .agg #[.int .i64 0, .bool true, .int .i64 0, .string ⟨#[]⟩, .bool false], .bool false])) W3 := by rw [← hpost.out]; exact ⟨rfl, hbW3⟩
            replace hf := Lib.hid hf
            have r0 := Lib.hid (HP.cell (o := 0) rfl)
            have r1 := Lib.hid (HP.cell (o := 1) rfl)
            have r2 := Lib.hid (HP.cell (o := 2) rfl)
            have r3 := Lib.hid (HP.cell (o := 3) rfl)
            have r4 := Lib.hid (HP.cell (o := 4) rfl)
            have s0 := Lib.hid (HQ.cell (o := 0) rfl)
            have s1 := Lib.hid (HQ.cell (o := 1) rfl)
            have s2 := Lib.hid (HQ.cell (o := 2) rfl)
            have s3 := Lib.hid (HQ.cell (o := 3) rfl)
            have s4 := Lib.hid (HQ.cell (o := 4) rfl)
            replace hzW1 := Lib.hid hzW1
            replace hzW2 := Lib.hid hzW2
            replace hzW3 := Lib.hid hzW3
            go_wp2_with fail
            rw [show ((((wn2.setCell ⟨w.heap.size, 0, none⟩ (.int .i64 0)).setCell ⟨w.heap.size, 1, none⟩ (.bool true)).setCell ⟨w.heap.size, 2, none⟩ (.int .i64 0)).setCell ⟨w.heap.size, 3, none⟩ (.string ⟨#[]⟩)).setCell ⟨w.heap.size, 4, none⟩ (.bool false) = W2 from hW2.out.symm]
            rw [show ((((W2.setCell ⟨w.heap.size + 1, 0, none⟩ (.int .i64 0)).setCell ⟨w.heap.size + 1, 1, none⟩ (.bool true)).setCell ⟨w.heap.size + 1, 2, none⟩ (.int .i64 0)).setCell ⟨w.heap.size + 1, 3, none⟩ (.string ⟨#[]⟩)).setCell ⟨w.heap.size + 1, 4, none⟩ (.bool false) = W3 from hW3.out.symm]
            exact bodyPost_ret (v := .tuple #[.agg #[.int .i64 0, .bool true, .int .i64 0, .string ⟨#[]⟩, .bool false], .agg #[.int .i64 0, .bool true, .int .i64 0, .string ⟨#[]⟩, .bool false], .bool false]) (by simp [results, Tryz.results12, go_sem, r0.out, r1.out, r2.out, r3.out, r4.out, s0.out, s1.out, s2.out, s3.out, s4.out]) rfl hf.out
          | false =>
            by_cases h4 : op = 4
            · have hd4 : ((op : Int) == 4) = true := by simp; omega
              replace h4 := Lib.hid h4
              have hsv : simpP op cc col ⟨tv, false, iv, xv, bv⟩ = ⟨⟨tv, false, iv, xv, bv⟩, ⟨tv, false, iv, xv, bv⟩, true⟩ := by unfold simpP; simp only [ne_eq, not_true_eq_false, not_false_eq_true, false_or, true_or, or_true, or_false, if_true, if_false, Bool.false_eq_true, hcc.out, h4.out] <;> rfl
              rw [hsv] at hpost
              clear hsv
              have cE0 := HE.cell (o := 0) rfl
              have cE1 := HE.cell (o := 1) rfl
              have cE2 := HE.cell (o := 2) rfl
              have cE3 := HE.cell (o := 3) rfl
              have cE4 := HE.cell (o := 4) rfl
              have cE5 := HE.cell (o := 5) rfl
              have cE6 := HE.cell (o := 6) rfl
              have cE7 := HE.cell (o := 7) rfl
              have cE8 := HE.cell (o := 8) rfl
              replace hzW1 := Lib.hid hzW1
              go_upto_region 13 with fail
              replace hzW1 := hzW1.out
              clear cE0 cE1 cE2 cE3 cE4 cE5 cE6 cE7 cE8
              have cE0 := HE.cell (o := 0) rfl
              have cE1 := HE.cell (o := 1) rfl
              have cE2 := HE.cell (o := 2) rfl
              have cE3 := HE.cell (o := 3) rfl
              have cE4 := HE.cell (o := 4) rfl
              have cE5 := HE.cell (o := 5) rfl
              have cE6 := HE.cell (o := 6) rfl
              have cE7 := HE.cell (o := 7) rfl
              have cE8 := HE.cell (o := 8) rfl
              have cP0 := HP.cell (o := 0) rfl
              have cP1 := HP.cell (o := 1) rfl
              have cP2 := HP.cell (o := 2) rfl
              have cP3 := HP.cell (o := 3) rfl
              have cP4 := HP.cell (o := 4) rfl
              have cQ0 := HQ.cell (o := 0) rfl
              have cQ1 := HQ.cell (o := 1) rfl
              have cQ2 := HQ.cell (o := 2) rfl
              have cQ3 := HQ.cell (o := 3) rfl
              have cQ4 := HQ.cell (o := 4) rfl
              have fP0 := HP.free 0
              have fP1 := HP.free 1
              have fP2 := HP.free 2
              have fP3 := HP.free 3
              have fP4 := HP.free 4
              have fQ0 := HQ.free 0
              have fQ1 := HQ.free 1
              have fQ2 := HQ.free 2
              have fQ3 := HQ.free 3
              have fQ4 := HQ.free 4
              replace hzW1 := Lib.hid hzW1
              go_region
              replace hzW1 := hzW1.out
              obtain ⟨W2, hW2⟩ : ∃ W2, W2 = ((((W1.setCell ⟨w.heap.size, 0, none⟩ (.int .i64 (tv : Int))).setCell ⟨w.heap.size, 1, none⟩ (.bool false)).setCell ⟨w.heap.size, 2, none⟩ (.int .i64 iv)).setCell ⟨w.heap.size, 3, none⟩ (.string xv)).setCell ⟨w.heap.size, 4, none⟩ (.bool bv) := ⟨_, rfl⟩
              replace HE : Has W2 (b) [.int .i64 (op : Int), l.ptr, r.ptr, .string cc, .int .i64 (tv : Int), .bool false, .int .i64 iv, .string xv, .bool bv] 97 := by rw [hW2]; exact (((((HE.set_ne (a := ⟨w.heap.size, 0, none⟩) (by first | (simp; done) | (simp; omega) | omega) _).set_ne (a := ⟨w.heap.size, 1, none⟩) (by first | (simp; done) | (simp; omega) | omega) _).set_ne (a := ⟨w.heap.size, 2, none⟩) (by first | (simp; done) | (simp; omega) | omega) _).set_ne (a := ⟨w.heap.size, 3, none⟩) (by first | (simp; done) | (simp; omega) | omega) _).set_ne (a := ⟨w.heap.size, 4, none⟩) (by first | (simp; done) | (simp; omega) | omega) _)
              replace HQ : Has W2 (w.heap.size + 1) [.int .i64 0, .bool false, .int .i64 0, .string ⟨#[]⟩, .bool false] 33 := by rw [hW2]; exact (((((HQ.set_ne (a := ⟨w.heap.size, 0, none⟩) (by first | (simp; done) | (simp; omega) | omega) _).set_ne (a := ⟨w.heap.size, 1, none⟩) (by first | (simp; done) | (simp; omega) | omega) _).set_ne (a := ⟨w.heap.size, 2, none⟩) (by first | (simp; done) | (simp; omega) | omega) _).set_ne (a := ⟨w.heap.size, 3, none⟩) (by first | (simp; done) | (simp; omega) | omega) _).set_ne (a := ⟨w.heap.size, 4, none⟩) (by first | (simp; done) | (simp; omega) | omega) _)
              replace HP : Has W2 (w.heap.size) [.int .i64 (tv : Int), .bool false, .int .i64 iv, .string xv, .bool bv] 33 := by rw [hW2]; exact (((((HP.set 0 (.int .i64 (tv : Int))).set 1 (.bool false)).set 2 (.int .i64 iv)).set 3 (.string xv)).set 4 (.bool bv))
              have hbW2 : Below w.heap.size w W2 := by rw [hW2]; exact (((((hbW1.setCell (p := ⟨w.heap.size, 0, none⟩) (by first | exact Nat.le_refl _ | (simp; done) | (simp; omega) | omega) _).setCell (p := ⟨w.heap.size, 1, none⟩) (by first | exact Nat.le_refl _ | (simp; done) | (simp; omega) | omega) _).setCell (p := ⟨w.heap.size, 2, none⟩) (by first | exact Nat.le_refl _ | (simp; done) | (simp; omega) | omega) _).setCell (p := ⟨w.heap.size, 3, none⟩) (by first | exact Nat.le_refl _ | (simp; done) | (simp; omega) | omega) _).setCell (p := ⟨w.heap.size, 4, none⟩) (by first | exact Nat.le_refl _ | (simp; done) | (simp; omega) | omega) _)
              have hzW2 : W2.heap.size = W1.heap.size := by rw [hW2]; simp
              replace hW2 := Lib.hid hW2
              obtain ⟨W3, hW3⟩ : ∃ W3, W3 = ((((W2.setCell ⟨w.heap.size + 1, 0, none⟩ (.int .i64 (tv : Int))).setCell ⟨w.heap.size + 1, 1, none⟩ (.bool false)).setCell ⟨w.heap.size + 1, 2, none⟩ (.int .i64 iv)).setCell ⟨w.heap.size + 1, 3, none⟩ (.string xv)).setCell ⟨w.heap.size + 1, 4, none⟩ (.bool bv) := ⟨_, rfl⟩
              replace HE : Has W3 (b) [.int .i64 (op : Int), l.ptr, r.ptr, .string cc, .int .i64 (tv : Int), .bool false, .int .i64 iv, .string xv, .bool bv] 97 := by rw [hW3]; exact (((((HE.set_ne (a := ⟨w.heap.size + 1, 0, none⟩) (by first | (simp; done) | (simp; omega) | omega) _).set_ne (a := ⟨w.heap.size + 1, 1, none⟩) (by first | (simp; done) | (simp; omega) | omega) _).set_ne (a := ⟨w.heap.size + 1, 2, none⟩) (by first | (simp; done) | (simp; omega) | omega) _).set_ne (a := ⟨w.heap.size + 1, 3, none⟩) (by first | (simp; done) | (simp; omega) | omega) _).set_ne (a := ⟨w.heap.size + 1, 4, none⟩) (by first | (simp; done) | (simp; omega) | omega) _)
              replace HP : Has W3 (w.heap.size) [.int .i64 (tv : Int), .bool false, .int .i64 iv, .string xv, .bool bv] 33 := by rw [hW3]; exact (((((HP.set_ne (a := ⟨w.heap.size + 1, 0, none⟩) (by first | (simp; done) | (simp; omega) | omega) _).set_ne (a := ⟨w.heap.size + 1, 1, none⟩) (by first | (simp; done) | (simp; omega) | omega) _).set_ne (a := ⟨w.heap.size + 1, 2, none⟩) (by first | (simp; done) | (simp; omega) | omega) _).set_ne (a := ⟨w.heap.size + 1, 3, none⟩) (by first | (simp; done) | (simp; omega) | omega) _).set_ne (a := ⟨w.heap.size + 1, 4, none⟩) (by first | (simp; done) | (simp; omega) | omega) _)
              replace HQ : Has W3 (w.heap.size + 1) [.int .i64 (tv : Int), .bool false, .int .i64 iv, .string xv, .bool bv] 33 := by rw [hW3]; exact (((((HQ.set 0 (.int .i64 (tv : Int))).set 1 (.bool false)).set 2 (.int .i64 iv)).set 3 (.string xv)).set 4 (.bool bv))
              have hbW3 : Below w.heap.size w W3 := by rw [hW3]; exact (((((hbW2.setCell (p := ⟨w.heap.size + 1, 0, none⟩) (by first | exact Nat.le_refl _ | (simp; done) | (simp; omega) | omega) _).setCell (p := ⟨w.heap.size + 1, 1, none⟩) (by first | exact Nat.le_refl _ | (simp; done) | (simp; omega) | omega) _).setCell (p := ⟨w.heap.size + 1, 2, none⟩) (by first | exact Nat.le_refl _ | (simp; done) | (simp; omega) | omega) _).setCell (p := ⟨w.heap.size + 1, 3, none⟩) (by first | exact Nat.le_refl _ | (simp; done) | (simp; omega) | omega) _).setCell (p := ⟨w.heap.size + 1, 4, none⟩) (by first | exact Nat.le_refl _ | (simp; done) | (simp; omega) | omega) _)
              have hzW3 : W3.heap.size = W2.heap.size := by rw [hW3]; simp
              replace hW3 := Lib.hid hW3
              have hf : post (.returned (.tuple #[.agg #[.int .i64 (tv : Int), .bool false, .int .i64 iv, .string xv, .bool bv], .agg #[.int .i64 (tv : Int), .bool false, .int .i64 iv, .string xv, .bool bv], .bool true])) W3.drew := by rw [← hpost.out]; exact ⟨rfl, hbW3.drew⟩
              replace hf := Lib.hid hf
              have r0 := Lib.hid (HP.cell (o := 0) rfl)
              have r1 := Lib.hid (HP.cell (o := 1) rfl)
              have r2 := Lib.hid (HP.cell (o := 2) rfl)
              have r3 := Lib.hid (HP.cell (o := 3) rfl)
              have r4 := Lib.hid (HP.cell (o := 4) rfl)
              have s0 := Lib.hid (HQ.cell (o := 0) rfl)
              have s1 := Lib.hid (HQ.cell (o := 1) rfl)
              have s2 := Lib.hid (HQ.cell (o := 2) rfl)
              have s3 := Lib.hid (HQ.cell (o := 3) rfl)
              have s4 := Lib.hid (HQ.cell (o := 4) rfl)
              replace hzW1 := Lib.hid hzW1
              replace hzW2 := Lib.hid hzW2
              replace hzW3 := Lib.hid hzW3
              go_wp2_with fail
              rw [show ((((W1.setCell ⟨w.heap.size, 0, none⟩ (.int .i64 (tv : Int))).setCell ⟨w.heap.size, 1, none⟩ (.bool false)).setCell ⟨w.heap.size, 2, none⟩ (.int .i64 iv)).setCell ⟨w.heap.size, 3, none⟩ (.string xv)).setCell ⟨w.heap.size, 4, none⟩ (.bool bv) = W2 from hW2.out.symm]
              rw [show ((((W2.setCell ⟨w.heap.size + 1, 0, none⟩ (.int .i64 (tv : Int))).setCell ⟨w.heap.size + 1, 1, none⟩ (.bool false)).setCell ⟨w.heap.size + 1, 2, none⟩ (.int .i64 iv)).setCell ⟨w.heap.size + 1, 3, none⟩ (.string xv)).setCell ⟨w.heap.size + 1, 4, none⟩ (.bool bv) = W3 from hW3.out.symm]
              exact bodyPost_ret (v := .tuple #[.agg #[.int .i64 (tv : Int), .bool false, .int .i64 iv, .string xv, .bool bv], .agg #[.int .i64 (tv : Int), .bool false, .int .i64 iv, .string xv, .bool bv], .bool true]) (by simp [results, Tryz.results12, go_sem, r0.out, r1.out, r2.out, r3.out, r4.out, s0.out, s1.out, s2.out, s3.out, s4.out]) rfl hf.out
            by_cases h7 : op = 7
            · have hd4 : ((op : Int) == 4) = false := by simp; omega
              have hd7 : ((op : Int) == 7) = true := by simp; omega
              replace h4 := Lib.hid h4
              replace h7 := Lib.hid h7
              have hsv : simpP op cc col ⟨tv, false, iv, xv, bv⟩ = ⟨RVN, ⟨tv, false, iv, xv, bv⟩, true⟩ := by unfold simpP; simp only [ne_eq, not_true_eq_false, not_false_eq_true, false_or, true_or, or_true, or_false, if_true, if_false, Bool.false_eq_true, hcc.out, h4.out, h7.out] <;> rfl
              rw [hsv] at hpost
              clear hsv
              have cE0 := HE.cell (o := 0) rfl
              have cE1 := HE.cell (o := 1) rfl
              have cE2 := HE.cell (o := 2) rfl
              have cE3 := HE.cell (o := 3) rfl
              have cE4 := HE.cell (o := 4) rfl
              have cE5 := HE.cell (o := 5) rfl
              have cE6 := HE.cell (o := 6) rfl
              have cE7 := HE.cell (o := 7) rfl
              have cE8 := HE.cell (o := 8) rfl
              replace hzW1 := Lib.hid hzW1
              go_upto_region 15 with fail
              clear cE0 cE1 cE2 cE3 cE4 cE5 cE6 cE7 cE8
              replace HE := hEB
              refine wp_region_part [0, 5, 6] [[], [0], []] [] (CS W1 (fun s => if s = 0 then some (.agg #[.int .i64 0, .bool true, .int .i64 0, .string ⟨#[]⟩, .bool false]) else if s = 1 then some (undef) else if s = 2 then some (undef) else none) (w.heap.size) (w.heap.size + 1) ⟨.int .i64 0, .bool false, .int .i64 0, .string ⟨#[]⟩, .bool false⟩ ⟨.int .i64 0, .bool false, .int .i64 0, .string ⟨#[]⟩, .bool false⟩ ⟨.int .i64 0, .bool true, .int .i64 0, .string ⟨#[]⟩, .bool false⟩ ⟨.int .i64 (tv : Int), .bool false, .int .i64 iv, .string xv, .bool bv⟩ 1 2 33) (by kernel_rfl) (by kernel_rfl) (by kernel_rfl) (CS.start HP HQ) (CS.ex hPQ (by decide) rfl rfl (fun s hs => by
                match s, hs with
                | 0, _ | 1, _ | 2, _ => exact ⟨_, rfl⟩
              )) (fun Hf hx => ?_)
              obtain ⟨w', hx⟩ := hx
              obtain ⟨hv, _⟩ := hx.done (by decide) (by decide)
              have v0e := hv 0 (by decide) _ rfl
              have v1e := hv 1 (by decide) _ rfl
              have v2e := hv 2 (by decide) _ rfl
              clear hv
              refine part_step (s := 0) v0e (by go_simp; exact rfl) (by kernel_rfl) (by kernel_rfl) (fun H wx hs hn hp hc => ?_) ?_
              · refine callUpon_mk (f := 30) (args := #[]) (by simp [go_sem]) ?_
                exact (hno.out wx).mono fun e w'' ⟨he, h2⟩ => ⟨_, he, hc.call (by decide) (by decide) rfl h2⟩
              refine part_chunk [] 4 _ _ _ (by kernel_rfl) (by kernel_rfl) (by decide) ?_
              simp only [List.take_succ_cons, List.take_zero, List.drop_succ_cons, List.drop_zero]
              go_big_quiet_want
              go_big_quiet_op
              first | go_big_quiet_on | (refine ⟨_, fun _ _ => rfl, ?_⟩; go_big_quiet_on)
              go_big_quiet_want
              go_big_quiet_op
              first | go_big_quiet_on | (refine ⟨_, fun _ _ => rfl, ?_⟩; go_big_quiet_on)
              go_big_quiet_want
              go_big_quiet_op
              first | go_big_quiet_on | (refine ⟨_, fun _ _ => rfl, ?_⟩; go_big_quiet_on)
              go_big_quiet_want
              go_big_quiet_op
              refine ⟨.agg #[.int .i64 (tv : Int), .bool false, .int .i64 iv, .string xv, .bool bv], fun wx hx => by
                have h := HE.out.only (CS.at hx) hnE
                have q0 := h.cell (o := 4) rfl
                have q1 := h.cell (o := 5) rfl
                have q2 := h.cell (o := 6) rfl
                have q3 := h.cell (o := 7) rfl
                have q4 := h.cell (o := 8) rfl
                simp [go_sem, q0, q1, q2, q3, q4], ?_⟩
              go_big_quiet_on
              refine wpQuiet_nil ?_
              refine part_step (s := 1) v1e (by go_simp; exact rfl) (by kernel_rfl) (by kernel_rfl) (fun H wx hs hn hp hc => ?_) ?_
              · have g := hc.h4
                have hno : H 1 = none := hn
                rw [hno] at g
                simp only [Option.isSome_none, Bool.false_eq_true, if_false, V5.l] at g
                have q0 := g.cell (o := 0) rfl
                have f0 := g.free 0
                have q1 := g.cell (o := 1) rfl
                have f1 := g.free 1
                have q2 := g.cell (o := 2) rfl
                have f2 := g.free 2
                have q3 := g.cell (o := 3) rfl
                have f3 := g.free 3
                have q4 := g.cell (o := 4) rfl
                have f4 := g.free 4
                exact callUpon_skip (by simp [go_sem, q0, q1, q2, q3, q4, f0, f1, f2, f3, f4]; rfl) (hc.sto4 hPQ (by decide) rfl)
              refine part_step (s := 2) v2e (by go_simp; exact rfl) (by kernel_rfl) (by kernel_rfl) (fun H wx hs hn hp hc => ?_) ?_
              · have g := hc.h5
                have hno : H 2 = none := hn
                rw [hno] at g
                simp only [Option.isSome_none, Bool.false_eq_true, if_false, V5.l] at g
                have q0 := g.cell (o := 0) rfl
                have f0 := g.free 0
                have q1 := g.cell (o := 1) rfl
                have f1 := g.free 1
                have q2 := g.cell (o := 2) rfl
                have f2 := g.free 2
                have q3 := g.cell (o := 3) rfl
                have f3 := g.free 3
                have q4 := g.cell (o := 4) rfl
                have f4 := g.free 4
                exact callUpon_skip (by simp [go_sem, q0, q1, q2, q3, q4, f0, f1, f2, f3, f4]; rfl) (hc.sto5 hPQ (by decide) rfl)
              refine part_chunk [] 1 _ _ _ (by kernel_rfl) (by kernel_rfl) (by decide) ?_
              simp only [List.take_succ_cons, List.take_zero, List.drop_succ_cons, List.drop_zero]
              go_big_quiet_want
              go_big_quiet_op
              first | go_big_quiet_on | (refine ⟨_, fun _ _ => rfl, ?_⟩; go_big_quiet_on)
              refine wpQuiet_nil ?_
              intro wz hz
              obtain ⟨_, hZ4, hZ5, hZO⟩ := hz.done (by decide) (by decide)
              have hZ4 := Lib.hid hZ4
              have hZ5 := Lib.hid hZ5
              have hbz : Below w.heap.size w wz := hBw.out.trans (hZO.below (B := w.heap.size) hBw.out.size (fun k _ hk => by rcases hk with hk | hk <;> omega))
              have hf : post (.returned (.tuple #[.agg #[.int .i64 0, .bool true, .int .i64 0, .string ⟨#[]⟩, .bool false], .agg #[.int .i64 (tv : Int), .bool false, .int .i64 iv, .string xv, .bool bv], .bool true])) wz := by
                rw [← hpost.out]
              
                exact ⟨rfl, hbz⟩
              replace hf := Lib.hid hf
              have r0 := Lib.hid (hZ4.out.cell (o := 0) rfl)
              have r1 := Lib.hid (hZ4.out.cell (o := 1) rfl)
              have r2 := Lib.hid (hZ4.out.cell (o := 2) rfl)
              have r3 := Lib.hid (hZ4.out.cell (o := 3) rfl)
              have r4 := Lib.hid (hZ4.out.cell (o := 4) rfl)
              have s0 := Lib.hid (hZ5.out.cell (o := 0) rfl)
              have s1 := Lib.hid (hZ5.out.cell (o := 1) rfl)
              have s2 := Lib.hid (hZ5.out.cell (o := 2) rfl)
              have s3 := Lib.hid (hZ5.out.cell (o := 3) rfl)
              have s4 := Lib.hid (hZ5.out.cell (o := 4) rfl)
              clear hx hz hZO hbz
              go_wp2_with fail
              exact bodyPost_ret (v := .tuple #[.agg #[.int .i64 0, .bool true, .int .i64 0, .string ⟨#[]⟩, .bool false], .agg #[.int .i64 (tv : Int), .bool false, .int .i64 iv, .string xv, .bool bv], .bool true]) (by simp [results, Tryz.results12, go_sem, r0.out, r1.out, r2.out, r3.out, r4.out, s0.out, s1.out, s2.out, s3.out, s4.out]) rfl hf.out
            by_cases h9 : op = 9
            · have hd4 : ((op : Int) == 4) = false := by simp; omega
              have hd7 : ((op : Int) == 7) = false := by simp; omega
              have hd9 : ((op : Int) == 9) = true := by simp; omega
              replace h4 := Lib.hid h4
              replace h7 := Lib.hid h7
              replace h9 := Lib.hid h9
              have hsv : simpP op cc col ⟨tv, false, iv, xv, bv⟩ = ⟨⟨tv, false, iv, xv, bv⟩, RVN, true⟩ := by unfold simpP; simp only [ne_eq, not_true_eq_false, not_false_eq_true, false_or, true_or, or_true, or_false, if_true, if_false, Bool.false_eq_true, hcc.out, h4.out, h7.out, h9.out, (show ¬ op = 6 by have := h9.out; omega)] <;> rfl
              rw [hsv] at hpost
              clear hsv
              have cE0 := HE.cell (o := 0) rfl
              have cE1 := HE.cell (o := 1) rfl
              have cE2 := HE.cell (o := 2) rfl
              have cE3 := HE.cell (o := 3) rfl
              have cE4 := HE.cell (o := 4) rfl
              have cE5 := HE.cell (o := 5) rfl
              have cE6 := HE.cell (o := 6) rfl
              have cE7 := HE.cell (o := 7) rfl
              have cE8 := HE.cell (o := 8) rfl
              replace hzW1 := Lib.hid hzW1
              go_upto_region 17 with fail
              clear cE0 cE1 cE2 cE3 cE4 cE5 cE6 cE7 cE8
              replace HE := hEB
              refine wp_region_part [4, 5, 6] [[], [], [0]] [] (CS W1 (fun s => if s = 0 then some (.agg #[.int .i64 0, .bool true, .int .i64 0, .string ⟨#[]⟩, .bool false]) else if s = 1 then some (undef) else if s = 2 then some (undef) else none) (w.heap.size) (w.heap.size + 1) ⟨.int .i64 0, .bool false, .int .i64 0, .string ⟨#[]⟩, .bool false⟩ ⟨.int .i64 0, .bool false, .int .i64 0, .string ⟨#[]⟩, .bool false⟩ ⟨.int .i64 (tv : Int), .bool false, .int .i64 iv, .string xv, .bool bv⟩ ⟨.int .i64 0, .bool true, .int .i64 0, .string ⟨#[]⟩, .bool false⟩ 1 2 33) (by kernel_rfl) (by kernel_rfl) (by kernel_rfl) (CS.start HP HQ) (CS.ex hPQ (by decide) rfl rfl (fun s hs => by
                match s, hs with
                | 0, _ | 1, _ | 2, _ => exact ⟨_, rfl⟩
              )) (fun Hf hx => ?_)
              obtain ⟨w', hx⟩ := hx
              obtain ⟨hv, _⟩ := hx.done (by decide) (by decide)
              have v0e := hv 0 (by decide) _ rfl
              have v1e := hv 1 (by decide) _ rfl
              have v2e := hv 2 (by decide) _ rfl
              clear hv
              refine part_chunk [] 4 0 _ _ (by kernel_rfl) (by kernel_rfl) (by decide) ?_
              simp only [List.take_succ_cons, List.take_zero, List.drop_succ_cons, List.drop_zero]
              go_big_quiet_want
              go_big_quiet_op
              first | go_big_quiet_on | (refine ⟨_, fun _ _ => rfl, ?_⟩; go_big_quiet_on)
              go_big_quiet_want
              go_big_quiet_op
              first | go_big_quiet_on | (refine ⟨_, fun _ _ => rfl, ?_⟩; go_big_quiet_on)
              go_big_quiet_want
              go_big_quiet_op
              first | go_big_quiet_on | (refine ⟨_, fun _ _ => rfl, ?_⟩; go_big_quiet_on)
              go_big_quiet_want
              go_big_quiet_op
              refine ⟨.agg #[.int .i64 (tv : Int), .bool false, .int .i64 iv, .string xv, .bool bv], fun wx hx => by
                have h := HE.out.only (CS.at hx) hnE
                have q0 := h.cell (o := 4) rfl
                have q1 := h.cell (o := 5) rfl
                have q2 := h.cell (o := 6) rfl
                have q3 := h.cell (o := 7) rfl
                have q4 := h.cell (o := 8) rfl
                simp [go_sem, q0, q1, q2, q3, q4], ?_⟩
              go_big_quiet_on
              refine wpQuiet_nil ?_
              refine part_step (s := 0) v0e (by go_simp; exact rfl) (by kernel_rfl) (by kernel_rfl) (fun H wx hs hn hp hc => ?_) ?_
              · refine callUpon_mk (f := 30) (args := #[]) (by simp [go_sem]) ?_
                exact (hno.out wx).mono fun e w'' ⟨he, h2⟩ => ⟨_, he, hc.call (by decide) (by decide) rfl h2⟩
              refine part_step (s := 1) v1e (by go_simp; exact rfl) (by kernel_rfl) (by kernel_rfl) (fun H wx hs hn hp hc => ?_) ?_
              · have g := hc.h4
                have hno : H 1 = none := hn
                rw [hno] at g
                simp only [Option.isSome_none, Bool.false_eq_true, if_false, V5.l] at g
                have q0 := g.cell (o := 0) rfl
                have f0 := g.free 0
                have q1 := g.cell (o := 1) rfl
                have f1 := g.free 1
                have q2 := g.cell (o := 2) rfl
                have f2 := g.free 2
                have q3 := g.cell (o := 3) rfl
                have f3 := g.free 3
                have q4 := g.cell (o := 4) rfl
                have f4 := g.free 4
                exact callUpon_skip (by simp [go_sem, q0, q1, q2, q3, q4, f0, f1, f2, f3, f4]; rfl) (hc.sto4 hPQ (by decide) rfl)
              refine part_step (s := 2) v2e (by go_simp; exact rfl) (by kernel_rfl) (by kernel_rfl) (fun H wx hs hn hp hc => ?_) ?_
              · have g := hc.h5
                have hno : H 2 = none := hn
                rw [hno] at g
                simp only [Option.isSome_none, Bool.false_eq_true, if_false, V5.l] at g
                have q0 := g.cell (o := 0) rfl
                have f0 := g.free 0
                have q1 := g.cell (o := 1) rfl
                have f1 := g.free 1
                have q2 := g.cell (o := 2) rfl
                have f2 := g.free 2
                have q3 := g.cell (o := 3) rfl
                have f3 := g.free 3
                have q4 := g.cell (o := 4) rfl
                have f4 := g.free 4
                exact callUpon_skip (by simp [go_sem, q0, q1, q2, q3, q4, f0, f1, f2, f3, f4]; rfl) (hc.sto5 hPQ (by decide) rfl)
              refine part_chunk [] 1 _ _ _ (by kernel_rfl) (by kernel_rfl) (by decide) ?_
              simp only [List.take_succ_cons, List.take_zero, List.drop_succ_cons, List.drop_zero]
              go_big_quiet_want
              go_big_quiet_op
              first | go_big_quiet_on | (refine ⟨_, fun _ _ => rfl, ?_⟩; go_big_quiet_on)
              refine wpQuiet_nil ?_
              intro wz hz
              obtain ⟨_, hZ4, hZ5, hZO⟩ := hz.done (by decide) (by decide)
              have hZ4 := Lib.hid hZ4
              have hZ5 := Lib.hid hZ5
              have hbz : Below w.heap.size w wz := hBw.out.trans (hZO.below (B := w.heap.size) hBw.out.size (fun k _ hk => by rcases hk with hk | hk <;> omega))
              have hf : post (.returned (.tuple #[.agg #[.int .i64 (tv : Int), .bool false, .int .i64 iv, .string xv, .bool bv], .agg #[.int .i64 0, .bool true, .int .i64 0, .string ⟨#[]⟩, .bool false], .bool true])) wz := by
                rw [← hpost.out]
              
                exact ⟨rfl, hbz⟩
              replace hf := Lib.hid hf
              have r0 := Lib.hid (hZ4.out.cell (o := 0) rfl)
              have r1 := Lib.hid (hZ4.out.cell (o := 1) rfl)
              have r2 := Lib.hid (hZ4.out.cell (o := 2) rfl)
              have r3 := Lib.hid (hZ4.out.cell (o := 3) rfl)
              have r4 := Lib.hid (hZ4.out.cell (o := 4) rfl)
              have s0 := Lib.hid (hZ5.out.cell (o := 0) rfl)
              have s1 := Lib.hid (hZ5.out.cell (o := 1) rfl)
              have s2 := Lib.hid (hZ5.out.cell (o := 2) rfl)
              have s3 := Lib.hid (hZ5.out.cell (o := 3) rfl)
              have s4 := Lib.hid (hZ5.out.cell (o := 4) rfl)
              clear hx hz hZO hbz
              go_wp2_with fail
              exact bodyPost_ret (v := .tuple #[.agg #[.int .i64 (tv : Int), .bool false, .int .i64 iv, .string xv, .bool bv], .agg #[.int .i64 0, .bool true, .int .i64 0, .string ⟨#[]⟩, .bool false], .bool true]) (by simp [results, Tryz.results12, go_sem, r0.out, r1.out, r2.out, r3.out, r4.out, s0.out, s1.out, s2.out, s3.out, s4.out]) rfl hf.out
            by_cases h6 : op = 6
            · have hd4 : ((op : Int) == 4) = false := by simp; omega
              have hd7 : ((op : Int) == 7) = false := by simp; omega
              have hd9 : ((op : Int) == 9) = false := by simp; omega
              have hd6 : ((op : Int) == 6) = true := by simp; omega
              replace h4 := Lib.hid h4
              replace h7 := Lib.hid h7
              replace h9 := Lib.hid h9
              replace h6 := Lib.hid h6
              have hsv : simpP op cc col ⟨tv, false, iv, xv, bv⟩ = ⟨RVN, ⟨tv, false, iv, xv, bv⟩, false⟩ := by unfold simpP; simp only [ne_eq, not_true_eq_false, not_false_eq_true, false_or, true_or, or_true, or_false, if_true, if_false, Bool.false_eq_true, hcc.out, h4.out, h7.out, h9.out, h6.out] <;> rfl
              rw [hsv] at hpost
              clear hsv
              have cE0 := HE.cell (o := 0) rfl
              have cE1 := HE.cell (o := 1) rfl
              have cE2 := HE.cell (o := 2) rfl
              have cE3 := HE.cell (o := 3) rfl
              have cE4 := HE.cell (o := 4) rfl
              have cE5 := HE.cell (o := 5) rfl
              have cE6 := HE.cell (o := 6) rfl
              have cE7 := HE.cell (o := 7) rfl
              have cE8 := HE.cell (o := 8) rfl
              replace hzW1 := Lib.hid hzW1
              go_upto_region 19 with fail
              clear cE0 cE1 cE2 cE3 cE4 cE5 cE6 cE7 cE8
              replace HE := hEB
              refine wp_region_part [0, 5, 6] [[], [0], []] [] (CS W1 (fun s => if s = 0 then some (.agg #[.int .i64 0, .bool true, .int .i64 0, .string ⟨#[]⟩, .bool false]) else if s = 1 then some (undef) else if s = 2 then some (undef) else none) (w.heap.size) (w.heap.size + 1) ⟨.int .i64 0, .bool false, .int .i64 0, .string ⟨#[]⟩, .bool false⟩ ⟨.int .i64 0, .bool false, .int .i64 0, .string ⟨#[]⟩, .bool false⟩ ⟨.int .i64 0, .bool true, .int .i64 0, .string ⟨#[]⟩, .bool false⟩ ⟨.int .i64 (tv : Int), .bool false, .int .i64 iv, .string xv, .bool bv⟩ 1 2 33) (by kernel_rfl) (by kernel_rfl) (by kernel_rfl) (CS.start HP HQ) (CS.ex hPQ (by decide) rfl rfl (fun s hs => by
                match s, hs with
                | 0, _ | 1, _ | 2, _ => exact ⟨_, rfl⟩
              )) (fun Hf hx => ?_)
              obtain ⟨w', hx⟩ := hx
              obtain ⟨hv, _⟩ := hx.done (by decide) (by decide)
              have v0e := hv 0 (by decide) _ rfl
              have v1e := hv 1 (by decide) _ rfl
              have v2e := hv 2 (by decide) _ rfl
              clear hv
              refine part_step (s := 0) v0e (by go_simp; exact rfl) (by kernel_rfl) (by kernel_rfl) (fun H wx hs hn hp hc => ?_) ?_
              · refine callUpon_mk (f := 30) (args := #[]) (by simp [go_sem]) ?_
                exact (hno.out wx).mono fun e w'' ⟨he, h2⟩ => ⟨_, he, hc.call (by decide) (by decide) rfl h2⟩
              refine part_chunk [] 4 _ _ _ (by kernel_rfl) (by kernel_rfl) (by decide) ?_
              simp only [List.take_succ_cons, List.take_zero, List.drop_succ_cons, List.drop_zero]
              go_big_quiet_want
              go_big_quiet_op
              first | go_big_quiet_on | (refine ⟨_, fun _ _ => rfl, ?_⟩; go_big_quiet_on)
              go_big_quiet_want
              go_big_quiet_op
              first | go_big_quiet_on | (refine ⟨_, fun _ _ => rfl, ?_⟩; go_big_quiet_on)
              go_big_quiet_want
              go_big_quiet_op
              first | go_big_quiet_on | (refine ⟨_, fun _ _ => rfl, ?_⟩; go_big_quiet_on)
              go_big_quiet_want
              go_big_quiet_op
              refine ⟨.agg #[.int .i64 (tv : Int), .bool false, .int .i64 iv, .string xv, .bool bv], fun wx hx => by
                have h := HE.out.only (CS.at hx) hnE
                have q0 := h.cell (o := 4) rfl
                have q1 := h.cell (o := 5) rfl
                have q2 := h.cell (o := 6) rfl
                have q3 := h.cell (o := 7) rfl
                have q4 := h.cell (o := 8) rfl
                simp [go_sem, q0, q1, q2, q3, q4], ?_⟩
              go_big_quiet_on
              refine wpQuiet_nil ?_
              refine part_step (s := 1) v1e (by go_simp; exact rfl) (by kernel_rfl) (by kernel_rfl) (fun H wx hs hn hp hc => ?_) ?_
              · have g := hc.h4
                have hno : H 1 = none := hn
                rw [hno] at g
                simp only [Option.isSome_none, Bool.false_eq_true, if_false, V5.l] at g
                have q0 := g.cell (o := 0) rfl
                have f0 := g.free 0
                have q1 := g.cell (o := 1) rfl
                have f1 := g.free 1
                have q2 := g.cell (o := 2) rfl
                have f2 := g.free 2
                have q3 := g.cell (o := 3) rfl
                have f3 := g.free 3
                have q4 := g.cell (o := 4) rfl
                have f4 := g.free 4
                exact callUpon_skip (by simp [go_sem, q0, q1, q2, q3, q4, f0, f1, f2, f3, f4]; rfl) (hc.sto4 hPQ (by decide) rfl)
              refine part_step (s := 2) v2e (by go_simp; exact rfl) (by kernel_rfl) (by kernel_rfl) (fun H wx hs hn hp hc => ?_) ?_
              · have g := hc.h5
                have hno : H 2 = none := hn
                rw [hno] at g
                simp only [Option.isSome_none, Bool.false_eq_true, if_false, V5.l] at g
                have q0 := g.cell (o := 0) rfl
                have f0 := g.free 0
                have q1 := g.cell (o := 1) rfl
                have f1 := g.free 1
                have q2 := g.cell (o := 2) rfl
                have f2 := g.free 2
                have q3 := g.cell (o := 3) rfl
                have f3 := g.free 3
                have q4 := g.cell (o := 4) rfl
                have f4 := g.free 4
                exact callUpon_skip (by simp [go_sem, q0, q1, q2, q3, q4, f0, f1, f2, f3, f4]; rfl) (hc.sto5 hPQ (by decide) rfl)
              refine part_chunk [] 1 _ _ _ (by kernel_rfl) (by kernel_rfl) (by decide) ?_
              simp only [List.take_succ_cons, List.take_zero, List.drop_succ_cons, List.drop_zero]
              go_big_quiet_want
              go_big_quiet_op
              first | go_big_quiet_on | (refine ⟨_, fun _ _ => rfl, ?_⟩; go_big_quiet_on)
              refine wpQuiet_nil ?_
              intro wz hz
              obtain ⟨_, hZ4, hZ5, hZO⟩ := hz.done (by decide) (by decide)
              have hZ4 := Lib.hid hZ4
              have hZ5 := Lib.hid hZ5
              have hbz : Below w.heap.size w wz := hBw.out.trans (hZO.below (B := w.heap.size) hBw.out.size (fun k _ hk => by rcases hk with hk | hk <;> omega))
              have hf : post (.returned (.tuple #[.agg #[.int .i64 0, .bool true, .int .i64 0, .string ⟨#[]⟩, .bool false], .agg #[.int .i64 (tv : Int), .bool false, .int .i64 iv, .string xv, .bool bv], .bool false])) wz := by
                rw [← hpost.out]
              
                exact ⟨rfl, hbz⟩
              replace hf := Lib.hid hf
              have r0 := Lib.hid (hZ4.out.cell (o := 0) rfl)
              have r1 := Lib.hid (hZ4.out.cell (o := 1) rfl)
              have r2 := Lib.hid (hZ4.out.cell (o := 2) rfl)
              have r3 := Lib.hid (hZ4.out.cell (o := 3) rfl)
              have r4 := Lib.hid (hZ4.out.cell (o := 4) rfl)
              have s0 := Lib.hid (hZ5.out.cell (o := 0) rfl)
              have s1 := Lib.hid (hZ5.out.cell (o := 1) rfl)
              have s2 := Lib.hid (hZ5.out.cell (o := 2) rfl)
              have s3 := Lib.hid (hZ5.out.cell (o := 3) rfl)
              have s4 := Lib.hid (hZ5.out.cell (o := 4) rfl)
              clear hx hz hZO hbz
              go_wp2_with fail
              exact bodyPost_ret (v := .tuple #[.agg #[.int .i64 0, .bool true, .int .i64 0, .string ⟨#[]⟩, .bool false], .agg #[.int .i64 (tv : Int), .bool false, .int .i64 iv, .string xv, .bool bv], .bool false]) (by simp [results, Tryz.results12, go_sem, r0.out, r1.out, r2.out, r3.out, r4.out, s0.out, s1.out, s2.out, s3.out, s4.out]) rfl hf.out
            by_cases h8 : op = 8
            · have hd4 : ((op : Int) == 4) = false := by simp; omega
              have hd7 : ((op : Int) == 7) = false := by simp; omega
              have hd9 : ((op : Int) == 9) = false := by simp; omega
              have hd6 : ((op : Int) == 6) = false := by simp; omega
              have hd8 : ((op : Int) == 8) = true := by simp; omega
              replace h4 := Lib.hid h4
              replace h7 := Lib.hid h7
              replace h9 := Lib.hid h9
              replace h6 := Lib.hid h6
              replace h8 := Lib.hid h8
              have hsv : simpP op cc col ⟨tv, false, iv, xv, bv⟩ = ⟨⟨tv, false, iv, xv, bv⟩, RVN, false⟩ := by unfold simpP; simp only [ne_eq, not_true_eq_false, not_false_eq_true, false_or, true_or, or_true, or_false, if_true, if_false, Bool.false_eq_true, hcc.out, h4.out, h7.out, h9.out, h6.out, h8.out] <;> rfl
              rw [hsv] at hpost
              clear hsv
              have cE0 := HE.cell (o := 0) rfl
              have cE1 := HE.cell (o := 1) rfl
              have cE2 := HE.cell (o := 2) rfl
              have cE3 := HE.cell (o := 3) rfl
              have cE4 := HE.cell (o := 4) rfl
              have cE5 := HE.cell (o := 5) rfl
              have cE6 := HE.cell (o := 6) rfl
              have cE7 := HE.cell (o := 7) rfl
              have cE8 := HE.cell (o := 8) rfl
              replace hzW1 := Lib.hid hzW1
              go_upto_region 21 with fail
              clear cE0 cE1 cE2 cE3 cE4 cE5 cE6 cE7 cE8
              replace HE := hEB
              refine wp_region_part [4, 5, 6] [[], [], [0]] [] (CS W1 (fun s => if s = 0 then some (.agg #[.int .i64 0, .bool true, .int .i64 0, .string ⟨#[]⟩, .bool false]) else if s = 1 then some (undef) else if s = 2 then some (undef) else none) (w.heap.size) (w.heap.size + 1) ⟨.int .i64 0, .bool false, .int .i64 0, .string ⟨#[]⟩, .bool false⟩ ⟨.int .i64 0, .bool false, .int .i64 0, .string ⟨#[]⟩, .bool false⟩ ⟨.int .i64 (tv : Int), .bool false, .int .i64 iv, .string xv, .bool bv⟩ ⟨.int .i64 0, .bool true, .int .i64 0, .string ⟨#[]⟩, .bool false⟩ 1 2 33) (by kernel_rfl) (by kernel_rfl) (by kernel_rfl) (CS.start HP HQ) (CS.ex hPQ (by decide) rfl rfl (fun s hs => by
                match s, hs with
                | 0, _ | 1, _ | 2, _ => exact ⟨_, rfl⟩
              )) (fun Hf hx => ?_)
              obtain ⟨w', hx⟩ := hx
              obtain ⟨hv, _⟩ := hx.done (by decide) (by decide)
              have v0e := hv 0 (by decide) _ rfl
              have v1e := hv 1 (by decide) _ rfl
              have v2e := hv 2 (by decide) _ rfl
              clear hv
              refine part_chunk [] 4 0 _ _ (by kernel_rfl) (by kernel_rfl) (by decide) ?_
              simp only [List.take_succ_cons, List.take_zero, List.drop_succ_cons, List.drop_zero]
              go_big_quiet_want
              go_big_quiet_op
              first | go_big_quiet_on | (refine ⟨_, fun _ _ => rfl, ?_⟩; go_big_quiet_on)
              go_big_quiet_want
              go_big_quiet_op
              first | go_big_quiet_on | (refine ⟨_, fun _ _ => rfl, ?_⟩; go_big_quiet_on)
              go_big_quiet_want
              go_big_quiet_op
              first | go_big_quiet_on | (refine ⟨_, fun _ _ => rfl, ?_⟩; go_big_quiet_on)
              go_big_quiet_want
              go_big_quiet_op
              refine ⟨.agg #[.int .i64 (tv : Int), .bool false, .int .i64 iv, .string xv, .bool bv], fun wx hx => by
                have h := HE.out.only (CS.at hx) hnE
                have q0 := h.cell (o := 4) rfl
                have q1 := h.cell (o := 5) rfl
                have q2 := h.cell (o := 6) rfl
                have q3 := h.cell (o := 7) rfl
                have q4 := h.cell (o := 8) rfl
                simp [go_sem, q0, q1, q2, q3, q4], ?_⟩
              go_big_quiet_on
              refine wpQuiet_nil ?_
              refine part_step (s := 0) v0e (by go_simp; exact rfl) (by kernel_rfl) (by kernel_rfl) (fun H wx hs hn hp hc => ?_) ?_
              · refine callUpon_mk (f := 30) (args := #[]) (by simp [go_sem]) ?_
                exact (hno.out wx).mono fun e w'' ⟨he, h2⟩ => ⟨_, he, hc.call (by decide) (by decide) rfl h2⟩
              refine part_step (s := 1) v1e (by go_simp; exact rfl) (by kernel_rfl) (by kernel_rfl) (fun H wx hs hn hp hc => ?_) ?_
              · have g := hc.h4
                have hno : H 1 = none := hn
                rw [hno] at g
                simp only [Option.isSome_none, Bool.false_eq_true, if_false, V5.l] at g
                have q0 := g.cell (o := 0) rfl
                have f0 := g.free 0
                have q1 := g.cell (o := 1) rfl
                have f1 := g.free 1
                have q2 := g.cell (o := 2) rfl
                have f2 := g.free 2
                have q3 := g.cell (o := 3) rfl
                have f3 := g.free 3
                have q4 := g.cell (o := 4) rfl
                have f4 := g.free 4
                exact callUpon_skip (by simp [go_sem, q0, q1, q2, q3, q4, f0, f1, f2, f3, f4]; rfl) (hc.sto4 hPQ (by decide) rfl)
              refine part_step (s := 2) v2e (by go_simp; exact rfl) (by kernel_rfl) (by kernel_rfl) (fun H wx hs hn hp hc => ?_) ?_
              · have g := hc.h5
                have hno : H 2 = none := hn
                rw [hno] at g
                simp only [Option.isSome_none, Bool.false_eq_true, if_false, V5.l] at g
                have q0 := g.cell (o := 0) rfl
                have f0 := g.free 0
                have q1 := g.cell (o := 1) rfl
                have f1 := g.free 1
                have q2 := g.cell (o := 2) rfl
                have f2 := g.free 2
                have q3 := g.cell (o := 3) rfl
                have f3 := g.free 3
                have q4 := g.cell (o := 4) rfl
                have f4 := g.free 4
                exact callUpon_skip (by simp [go_sem, q0, q1, q2, q3, q4, f0, f1, f2, f3, f4]; rfl) (hc.sto5 hPQ (by decide) rfl)
              refine part_chunk [] 1 _ _ _ (by kernel_rfl) (by kernel_rfl) (by decide) ?_
              simp only [List.take_succ_cons, List.take_zero, List.drop_succ_cons, List.drop_zero]
              go_big_quiet_want
              go_big_quiet_op
              first | go_big_quiet_on | (refine ⟨_, fun _ _ => rfl, ?_⟩; go_big_quiet_on)
              refine wpQuiet_nil ?_
              intro wz hz
              obtain ⟨_, hZ4, hZ5, hZO⟩ := hz.done (by decide) (by decide)
              have hZ4 := Lib.hid hZ4
              have hZ5 := Lib.hid hZ5
              have hbz : Below w.heap.size w wz := hBw.out.trans (hZO.below (B := w.heap.size) hBw.out.size (fun k _ hk => by rcases hk with hk | hk <;> omega))
              have hf : post (.returned (.tuple #[.agg #[.int .i64 (tv : Int), .bool false, .int .i64 iv, .string xv, .bool bv], .agg #[.int .i64 0, .bool true, .int .i64 0, .string ⟨#[]⟩, .bool false], .bool false])) wz := by
                rw [← hpost.out]
              
                exact ⟨rfl, hbz⟩
              replace hf := Lib.hid hf
              have r0 := Lib.hid (hZ4.out.cell (o := 0) rfl)
              have r1 := Lib.hid (hZ4.out.cell (o := 1) rfl)
              have r2 := Lib.hid (hZ4.out.cell (o := 2) rfl)
              have r3 := Lib.hid (hZ4.out.cell (o := 3) rfl)
              have r4 := Lib.hid (hZ4.out.cell (o := 4) rfl)
              have s0 := Lib.hid (hZ5.out.cell (o := 0) rfl)
              have s1 := Lib.hid (hZ5.out.cell (o := 1) rfl)
              have s2 := Lib.hid (hZ5.out.cell (o := 2) rfl)
              have s3 := Lib.hid (hZ5.out.cell (o := 3) rfl)
              have s4 := Lib.hid (hZ5.out.cell (o := 4) rfl)
              clear hx hz hZO hbz
              go_wp2_with fail
              exact bodyPost_ret (v := .tuple #[.agg #[.int .i64 (tv : Int), .bool false, .int .i64 iv, .string xv, .bool bv], .agg #[.int .i64 0, .bool true, .int .i64 0, .string ⟨#[]⟩, .bool false], .bool false]) (by simp [results, Tryz.results12, go_sem, r0.out, r1.out, r2.out, r3.out, r4.out, s0.out, s1.out, s2.out, s3.out, s4.out]) rfl hf.out
            have hd4 : ((op : Int) == 4) = false := by simp; omega
            have hd7 : ((op : Int) == 7) = false := by simp; omega
            have hd9 : ((op : Int) == 9) = false := by simp; omega
            have hd6 : ((op : Int) == 6) = false := by simp; omega
            have hd8 : ((op : Int) == 8) = false := by simp; omega
            have hsv : simpP op cc col ⟨tv, false, iv, xv, bv⟩ = ⟨RVN, RVN, false⟩ := by unfold simpP; simp only [ne_eq, not_true_eq_false, not_false_eq_true, false_or, true_or, or_true, or_false, if_true, if_false, Bool.false_eq_true, hcc.out, h4, h7, h9, h6, h8] <;> rfl
            rw [hsv] at hpost
            clear hsv
            have cE0 := HE.cell (o := 0) rfl
            have cE1 := HE.cell (o := 1) rfl
            have cE2 := HE.cell (o := 2) rfl
            have cE3 := HE.cell (o := 3) rfl
            have cE4 := HE.cell (o := 4) rfl
            have cE5 := HE.cell (o := 5) rfl
            have cE6 := HE.cell (o := 6) rfl
            have cE7 := HE.cell (o := 7) rfl
            have cE8 := HE.cell (o := 8) rfl
            replace hzW1 := Lib.hid hzW1
            go_wp2_with fail
            refine (hno.out _).mono ?_
            rintro e wn1 ⟨rfl, hn1⟩
            replace hzW1 := hzW1.out
            replace HE : Has wn1 (b) [.int .i64 (op : Int), l.ptr, r.ptr, .string cc, .int .i64 (tv : Int), .bool false, .int .i64 iv, .string xv, .bool bv] 97 := HE.only (Only.of_below hn1) (Nat.not_le.2 HE.lt)
            replace HP : Has wn1 (w.heap.size) [.int .i64 0, .bool false, .int .i64 0, .string ⟨#[]⟩, .bool false] 33 := HP.only (Only.of_below hn1) (Nat.not_le.2 HP.lt)
            replace HQ : Has wn1 (w.heap.size + 1) [.int .i64 0, .bool false, .int .i64 0, .string ⟨#[]⟩, .bool false] 33 := HQ.only (Only.of_below hn1) (Nat.not_le.2 HQ.lt)
            have hbwn1 : Below w.heap.size w wn1 := hbW1.trans (hn1.mono hbW1.size)
            have hzwn1 := hn1.size
            replace hn1 := Lib.hid hn1
            replace hzW1 := Lib.hid hzW1
            go_wp2_with fail
            refine (hno.out _).mono ?_
            rintro e wn2 ⟨rfl, hn2⟩
            replace hzW1 := hzW1.out
            replace HE : Has wn2 (b) [.int .i64 (op : Int), l.ptr, r.ptr, .string cc, .int .i64 (tv : Int), .bool false, .int .i64 iv, .string xv, .bool bv] 97 := HE.only (Only.of_below hn2) (Nat.not_le.2 HE.lt)
            replace HP : Has wn2 (w.heap.size) [.int .i64 0, .bool false, .int .i64 0, .string ⟨#[]⟩, .bool false] 33 := HP.only (Only.of_below hn2) (Nat.not_le.2 HP.lt)
            replace HQ : Has wn2 (w.heap.size + 1) [.int .i64 0, .bool false, .int .i64 0, .string ⟨#[]⟩, .bool false] 33 := HQ.only (Only.of_below hn2) (Nat.not_le.2 HQ.lt)
            have hbwn2 : Below w.heap.size w wn2 := hbwn1.trans (hn2.mono hbwn1.size)
            have hzwn2 := hn2.size
            replace hn2 := Lib.hid hn2
            clear cE0 cE1 cE2 cE3 cE4 cE5 cE6 cE7 cE8
            have cP0 := HP.cell (o := 0) rfl
            have cP1 := HP.cell (o := 1) rfl
            have cP2 := HP.cell (o := 2) rfl
            have cP3 := HP.cell (o := 3) rfl
            have cP4 := HP.cell (o := 4) rfl
            have cQ0 := HQ.cell (o := 0) rfl
            have cQ1 := HQ.cell (o := 1) rfl
            have cQ2 := HQ.cell (o := 2) rfl
            have cQ3 := HQ.cell (o := 3) rfl
            have cQ4 := HQ.cell (o := 4) rfl
            have fP0 := HP.free 0
            have fP1 := HP.free 1
            have fP2 := HP.free 2
            have fP3 := HP.free 3
            have fP4 := HP.free 4
            have fQ0 := HQ.free 0
            have fQ1 := HQ.free 1
            have fQ2 := HQ.free 2
            have fQ3 := HQ.free 3
            have fQ4 := HQ.free 4
            obtain ⟨W2, hW2⟩ : ∃ W2, W2 = ((((wn2.setCell ⟨w.heap.size, 0, none⟩ (.int .i64 0)).setCell ⟨w.heap.size, 1, none⟩ (.bool true)).setCell ⟨w.heap.size, 2, none⟩ (.int .i64 0)).setCell ⟨w.heap.size, 3, none⟩ (.string ⟨#[]⟩)).setCell ⟨w.heap.size, 4, none⟩ (.bool false) := ⟨_, rfl⟩
            replace HE : Has W2 (b) [.int .i64 (op : Int), l.ptr, r.ptr, .string cc, .int .i64 (tv : Int), .bool false, .int .i64 iv, .string xv, .bool bv] 97 := by rw [hW2]; exact (((((HE.set_ne (a := ⟨w.heap.size, 0, none⟩) (by first | (simp; done) | (simp; omega) | omega) _).set_ne (a := ⟨w.heap.size, 1, none⟩) (by first | (simp; done) | (simp; omega) | omega) _).set_ne (a := ⟨w.heap.size, 2, none⟩) (by first | (simp; done) | (simp; omega) | omega) _).set_ne (a := ⟨w.heap.size, 3, none⟩) (by first | (simp; done) | (simp; omega) | omega) _).set_ne (a := ⟨w.heap.size, 4, none⟩) (by first | (simp; done) | (simp; omega) | omega) _)
            replace HQ : Has W2 (w.heap.size + 1) [.int .i64 0, .bool false, .int .i64 0, .string ⟨#[]⟩, .bool false] 33 := by rw [hW2]; exact (((((HQ.set_ne (a := ⟨w.heap.size, 0, none⟩) (by first | (simp; done) | (simp; omega) | omega) _).set_ne (a := ⟨w.heap.size, 1, none⟩) (by first | (simp; done) | (simp; omega) | omega) _).set_ne (a := ⟨w.heap.size, 2, none⟩) (by first | (simp; done) | (simp; omega) | omega) _).set_ne (a := ⟨w.heap.size, 3, none⟩) (by first | (simp; done) | (simp; omega) | omega) _).set_ne (a := ⟨w.heap.size, 4, none⟩) (by first | (simp; done) | (simp; omega) | omega) _)
            replace HP : Has W2 (w.heap.size) [.int .i64 0, .bool true, .int .i64 0, .string ⟨#[]⟩, .bool false] 33 := by rw [hW2]; exact (((((HP.set 0 (.int .i64 0)).set 1 (.bool true)).set 2 (.int .i64 0)).set 3 (.string ⟨#[]⟩)).set 4 (.bool false))
            have hbW2 : Below w.heap.size w W2 := by rw [hW2]; exact (((((hbwn2.setCell (p := ⟨w.heap.size, 0, none⟩) (by first | exact Nat.le_refl _ | (simp; done) | (simp; omega) | omega) _).setCell (p := ⟨w.heap.size, 1, none⟩) (by first | exact Nat.le_refl _ | (simp; done) | (simp; omega) | omega) _).setCell (p := ⟨w.heap.size, 2, none⟩) (by first | exact Nat.le_refl _ | (simp; done) | (simp; omega) | omega) _).setCell (p := ⟨w.heap.size, 3, none⟩) (by first | exact Nat.le_refl _ | (simp; done) | (simp; omega) | omega) _).setCell (p := ⟨w.heap.size, 4, none⟩) (by first | exact Nat.le_refl _ | (simp; done) | (simp; omega) | omega) _)
            have hzW2 : W2.heap.size = wn2.heap.size := by rw [hW2]; simp
            replace hW2 := Lib.hid hW2
            obtain ⟨W3, hW3⟩ : ∃ W3, W3 = ((((W2.setCell ⟨w.heap.size + 1, 0, none⟩ (.int .i64 0)).setCell ⟨w.heap.size + 1, 1, none⟩ (.bool true)).setCell ⟨w.heap.size + 1, 2, none⟩ (.int .i64 0)).setCell ⟨w.heap.size + 1, 3, none⟩ (.string ⟨#[]⟩)).setCell ⟨w.heap.size + 1, 4, none⟩ (.bool false) := ⟨_, rfl⟩
            replace HE : Has W3 (b) [.int .i64 (op : Int), l.ptr, r.ptr, .string cc, .int .i64 (tv : Int), .bool false, .int .i64 iv, .string xv, .bool bv] 97 := by rw [hW3]; exact (((((HE.set_ne (a := ⟨w.heap.size + 1, 0, none⟩) (by first | (simp; done) | (simp; omega) | omega) _).set_ne (a := ⟨w.heap.size + 1, 1, none⟩) (by first | (simp; done) | (simp; omega) | omega) _).set_ne (a := ⟨w.heap.size + 1, 2, none⟩) (by first | (simp; done) | (simp; omega) | omega) _).set_ne (a := ⟨w.heap.size + 1, 3, none⟩) (by first | (simp; done) | (simp; omega) | omega) _).set_ne (a := ⟨w.heap.size + 1, 4, none⟩) (by first | (simp; done) | (simp; omega) | omega) _)
            replace HP : Has W3 (w.heap.size) [.int .i64 0, .bool true, .int .i64 0, .string ⟨#[]⟩, .bool false] 33 := by rw [hW3]; exact (((((HP.set_ne (a := ⟨w.heap.size + 1, 0, none⟩) (by first | (simp; done) | (simp; omega) | omega) _).set_ne (a := ⟨w.heap.size + 1, 1, none⟩) (by first | (simp; done) | (simp; omega) | omega) _).set_ne (a := ⟨w.heap.size + 1, 2, none⟩) (by first | (simp; done) | (simp; omega) | omega) _).set_ne (a := ⟨w.heap.size + 1, 3, none⟩) (by first | (simp; done) | (simp; omega) | omega) _).set_ne (a := ⟨w.heap.size + 1, 4, none⟩) (by first | (simp; done) | (simp; omega) | omega) _)
            replace HQ : Has W3 (w.heap.size + 1) [.int .i64 0, .bool true, .int .i64 0, .string ⟨#[]⟩, .bool false] 33 := by rw [hW3]; exact (((((HQ.set 0 (.int .i64 0)).set 1 (.bool true)).set 2 (.int .i64 0)).set 3 (.string ⟨#[]⟩)).set 4 (.bool false))
            have hbW3 : Below w.heap.size w W3 := by rw [hW3]; exact (((((hbW2.setCell (p := ⟨w.heap.size + 1, 0, none⟩) (by first | exact Nat.le_refl _ | (simp; done) | (simp; omega) | omega) _).setCell (p := ⟨w.heap.size + 1, 1, none⟩) (by first | exact Nat.le_refl _ | (simp; done) | (simp; omega) | omega) _).setCell (p := ⟨w.heap.size + 1, 2, none⟩) (by first | exact Nat.le_refl _ | (simp; done) | (simp; omega) | omega) _).setCell (p := ⟨w.heap.size + 1, 3, none⟩) (by first | exact Nat.le_refl _ | (simp; done) | (simp; omega) | omega) _).setCell (p := ⟨w.heap.size + 1, 4, none⟩) (by first | exact Nat.le_refl _ | (simp; done) | (simp; omega) | omega) _)
            have hzW3 : W3.heap.size = W2.heap.size := by rw [hW3]; simp
            replace hW3 := Lib.hid hW3
            have hf : post (.returned (.tuple #[.agg #[.int .i64 0, .bool true, .int .i64 0, .string ⟨#[]⟩, .bool false], .agg #[.int .i64 0, .bool true, .int .i64 0, .string ⟨#[]⟩, .bool false], .bool false])) W3 := by rw [← hpost.out]; exact ⟨rfl, hbW3⟩
            replace hf := Lib.hid hf
            have r0 := Lib.hid (HP.cell (o := 0) rfl)
            have r1 := Lib.hid (HP.cell (o := 1) rfl)
            have r2 := Lib.hid (HP.cell (o := 2) rfl)
            have r3 := Lib.hid (HP.cell (o := 3) rfl)
            have r4 := Lib.hid (HP.cell (o := 4) rfl)
            have s0 := Lib.hid (HQ.cell (o := 0) rfl)
            have s1 := Lib.hid (HQ.cell (o := 1) rfl)
            have s2 := Lib.hid (HQ.cell (o := 2) rfl)
            have s3 := Lib.hid (HQ.cell (o := 3) rfl)
            have s4 := Lib.hid (HQ.cell (o := 4) rfl)
            replace hzW1 := Lib.hid hzW1
            replace hzW2 := Lib.hid hzW2
            replace hzW3 := Lib.hid hzW3
            go_wp2_with fail
            rw [show ((((wn2.setCell ⟨w.heap.size, 0, none⟩ (.int .i64 0)).setCell ⟨w.heap.size, 1, none⟩ (.bool true)).setCell ⟨w.heap.size, 2, none⟩ (.int .i64 0)).setCell ⟨w.heap.size, 3, none⟩ (.string ⟨#[]⟩)).setCell ⟨w.heap.size, 4, none⟩ (.bool false) = W2 from hW2.out.symm]
            rw [show ((((W2.setCell ⟨w.heap.size + 1, 0, none⟩ (.int .i64 0)).setCell ⟨w.heap.size + 1, 1, none⟩ (.bool true)).setCell ⟨w.heap.size + 1, 2, none⟩ (.int .i64 0)).setCell ⟨w.heap.size + 1, 3, none⟩ (.string ⟨#[]⟩)).setCell ⟨w.heap.size + 1, 4, none⟩ (.bool false) = W3 from hW3.out.symm]
            exact bodyPost_ret (v := .tuple #[.agg #[.int .i64 0, .bool true, .int .i64 0, .string ⟨#[]⟩, .bool false], .agg #[.int .i64 0, .bool true, .int .i64 0, .string ⟨#[]⟩, .bool false], .bool false]) (by simp [results, Tryz.results12, go_sem, r0.out, r1.out, r2.out, r3.out, r4.out, s0.out, s1.out, s2.out, s3.out, s4.out]) rfl hf.out
        · have hs : (cc.toList == col.toList) = false := by rw [str_eq]; exact decide_eq_false hcc
          replace hcc := Lib.hid hcc
          have hsv : simpP op cc col ⟨tv, nv, iv, xv, bv⟩ = ⟨RVN, RVN, false⟩ := by unfold simpP; simp only [ne_eq, not_true_eq_false, not_false_eq_true, false_or, true_or, or_true, or_false, if_true, if_false, Bool.false_eq_true, hcc.out] <;> rfl
          rw [hsv] at hpost
          clear hsv
          have cE0 := HE.cell (o := 0) rfl
          have cE1 := HE.cell (o := 1) rfl
          have cE2 := HE.cell (o := 2) rfl
          have cE3 := HE.cell (o := 3) rfl
          have cE4 := HE.cell (o := 4) rfl
          have cE5 := HE.cell (o := 5) rfl
          have cE6 := HE.cell (o := 6) rfl
          have cE7 := HE.cell (o := 7) rfl
          have cE8 := HE.cell (o := 8) rfl
          replace hzW1 := Lib.hid hzW1
          go_wp2_with fail
          refine (hno.out _).mono ?_
          rintro e wn1 ⟨rfl, hn1⟩
          replace hzW1 := hzW1.out
          replace HE : Has wn1 (b) [.int .i64 (op : Int), l.ptr, r.ptr, .string cc, .int .i64 (tv : Int), .bool nv, .int .i64 iv, .string xv, .bool bv] 97 := HE.only (Only.of_below hn1) (Nat.not_le.2 HE.lt)
          replace HP : Has wn1 (w.heap.size) [.int .i64 0, .bool false, .int .i64 0, .string ⟨#[]⟩, .bool false] 33 := HP.only (Only.of_below hn1) (Nat.not_le.2 HP.lt)
          replace HQ : Has wn1 (w.heap.size + 1) [.int .i64 0, .bool false, .int .i64 0, .string ⟨#[]⟩, .bool false] 33 := HQ.only (Only.of_below hn1) (Nat.not_le.2 HQ.lt)
          have hbwn1 : Below w.heap.size w wn1 := hbW1.trans (hn1.mono hbW1.size)
          have hzwn1 := hn1.size
          replace hn1 := Lib.hid hn1
          replace hzW1 := Lib.hid hzW1
          go_wp2_with fail
          refine (hno.out _).mono ?_
          rintro e wn2 ⟨rfl, hn2⟩
          replace hzW1 := hzW1.out
          replace HE : Has wn2 (b) [.int .i64 (op : Int), l.ptr, r.ptr, .string cc, .int .i64 (tv : Int), .bool nv, .int .i64 iv, .string xv, .bool bv] 97 := HE.only (Only.of_below hn2) (Nat.not_le.2 HE.lt)
          replace HP : Has wn2 (w.heap.size) [.int .i64 0, .bool false, .int .i64 0, .string ⟨#[]⟩, .bool false] 33 := HP.only (Only.of_below hn2) (Nat.not_le.2 HP.lt)
          replace HQ : Has wn2 (w.heap.size + 1) [.int .i64 0, .bool false, .int .i64 0, .string ⟨#[]⟩, .bool false] 33 := HQ.only (Only.of_below hn2) (Nat.not_le.2 HQ.lt)
          have hbwn2 : Below w.heap.size w wn2 := hbwn1.trans (hn2.mono hbwn1.size)
          have hzwn2 := hn2.size
          replace hn2 := Lib.hid hn2
          clear cE0 cE1 cE2 cE3 cE4 cE5 cE6 cE7 cE8
          have cP0 := HP.cell (o := 0) rfl
          have cP1 := HP.cell (o := 1) rfl
          have cP2 := HP.cell (o := 2) rfl
          have cP3 := HP.cell (o := 3) rfl
          have cP4 := HP.cell (o := 4) rfl
          have cQ0 := HQ.cell (o := 0) rfl
          have cQ1 := HQ.cell (o := 1) rfl
          have cQ2 := HQ.cell (o := 2) rfl
          have cQ3 := HQ.cell (o := 3) rfl
          have cQ4 := HQ.cell (o := 4) rfl
          have fP0 := HP.free 0
          have fP1 := HP.free 1
          have fP2 := HP.free 2
          have fP3 := HP.free 3
          have fP4 := HP.free 4
          have fQ0 := HQ.free 0
          have fQ1 := HQ.free 1
          have fQ2 := HQ.free 2
          have fQ3 := HQ.free 3
          have fQ4 := HQ.free 4
          obtain ⟨W2, hW2⟩ : ∃ W2, W2 = ((((wn2.setCell ⟨w.heap.size, 0, none⟩ (.int .i64 0)).setCell ⟨w.heap.size, 1, none⟩ (.bool true)).setCell ⟨w.heap.size, 2, none⟩ (.int .i64 0)).setCell ⟨w.heap.size, 3, none⟩ (.string ⟨#[]⟩)).setCell ⟨w.heap.size, 4, none⟩ (.bool false) := ⟨_, rfl⟩
          replace HE : Has W2 (b) [.int .i64 (op : Int), l.ptr, r.ptr, .string cc, .int .i64 (tv : Int), .bool nv, .int .i64 iv, .string xv, .bool bv] 97 := by rw [hW2]; exact (((((HE.set_ne (a := ⟨w.heap.size, 0, none⟩) (by first | (simp; done) | (simp; omega) | omega) _).set_ne (a := ⟨w.heap.size, 1, none⟩) (by first | (simp; done) | (simp; omega) | omega) _).set_ne (a := ⟨w.heap.size, 2, none⟩) (by first | (simp; done) | (simp; omega) | omega) _).set_ne (a := ⟨w.heap.size, 3, none⟩) (by first | (simp; done) | (simp; omega) | omega) _).set_ne (a := ⟨w.heap.size, 4, none⟩) (by first | (simp; done) | (simp; omega) | omega) _)
          replace HQ : Has W2 (w.heap.size + 1) [.int .i64 0, .bool false, .int .i64 0, .string ⟨#[]⟩, .bool false] 33 := by rw [hW2]; exact (((((HQ.set_ne (a := ⟨w.heap.size, 0, none⟩) (by first | (simp; done) | (simp; omega) | omega) _).set_ne (a := ⟨w.heap.size, 1, none⟩) (by first | (simp; done) | (simp; omega) | omega) _).set_ne (a := ⟨w.heap.size, 2, none⟩) (by first | (simp; done) | (simp; omega) | omega) _).set_ne (a := ⟨w.heap.size, 3, none⟩) (by first | (simp; done) | (simp; omega) | omega) _).set_ne (a := ⟨w.heap.size, 4, none⟩) (by first | (simp; done) | (simp; omega) | omega) _)
          replace HP : Has W2 (w.heap.size) [.int .i64 0, .bool true, .int .i64 0, .string ⟨#[]⟩, .bool false] 33 := by rw [hW2]; exact (((((HP.set 0 (.int .i64 0)).set 1 (.bool true)).set 2 (.int .i64 0)).set 3 (.string ⟨#[]⟩)).set 4 (.bool false))
          have hbW2 : Below w.heap.size w W2 := by rw [hW2]; exact (((((hbwn2.setCell (p := ⟨w.heap.size, 0, none⟩) (by first | exact Nat.le_refl _ | (simp; done) | (simp; omega) | omega) _).setCell (p := ⟨w.heap.size, 1, none⟩) (by first | exact Nat.le_refl _ | (simp; done) | (simp; omega) | omega) _).setCell (p := ⟨w.heap.size, 2, none⟩) (by first | exact Nat.le_refl _ | (simp; done) | (simp; omega) | omega) _).setCell (p := ⟨w.heap.size, 3, none⟩) (by first | exact Nat.le_refl _ | (simp; done) | (simp; omega) | omega) _).setCell (p := ⟨w.heap.size, 4, none⟩) (by first | exact Nat.le_refl _ | (simp; done) | (simp; omega) | omega) _)
          have hzW2 : W2.heap.size = wn2.heap.size := by rw [hW2]; simp
          replace hW2 := Lib.hid hW2
          obtain ⟨W3, hW3⟩ : ∃ W3, W3 = ((((W2.setCell ⟨w.heap.size + 1, 0, none⟩ (.int .i64 0)).setCell ⟨w.heap.size + 1, 1, none⟩ (.bool true)).setCell ⟨w.heap.size + 1, 2, none⟩ (.int .i64 0)).setCell ⟨w.heap.size + 1, 3, none⟩ (.string ⟨#[]⟩)).setCell ⟨w.heap.size + 1, 4, none⟩ (.bool false) := ⟨_, rfl⟩
          replace HE : Has W3 (b) [.int .i64 (op : Int), l.ptr, r.ptr, .string cc, .int .i64 (tv : Int), .bool nv, .int .i64 iv, .string xv, .bool bv] 97 := by rw [hW3]; exact (((((HE.set_ne (a := ⟨w.heap.size + 1, 0, none⟩) (by first | (simp; done) | (simp; omega) | omega) _).set_ne (a := ⟨w.heap.size + 1, 1, none⟩) (by first | (simp; done) | (simp; omega) | omega) _).set_ne (a := ⟨w.heap.size + 1, 2, none⟩) (by first | (simp; done) | (simp; omega) | omega) _).set_ne (a := ⟨w.heap.size + 1, 3, none⟩) (by first | (simp; done) | (simp; omega) | omega) _).set_ne (a := ⟨w.heap.size + 1, 4, none⟩) (by first | (simp; done) | (simp; omega) | omega) _)
          replace HP : Has W3 (w.heap.size) [.int .i64 0, .bool true, .int .i64 0, .string ⟨#[]⟩, .bool false] 33 := by rw [hW3]; exact (((((HP.set_ne (a := ⟨w.heap.size + 1, 0, none⟩) (by first | (simp; done) | (simp; omega) | omega) _).set_ne (a := ⟨w.heap.size + 1, 1, none⟩) (by first | (simp; done) | (simp; omega) | omega) _).set_ne (a := ⟨w.heap.size + 1, 2, none⟩) (by first | (simp; done) | (simp; omega) | omega) _).set_ne (a := ⟨w.heap.size + 1, 3, none⟩) (by first | (simp; done) | (simp; omega) | omega) _).set_ne (a := ⟨w.heap.size + 1, 4, none⟩) (by first | (simp; done) | (simp; omega) | omega) _)
          replace HQ : Has W3 (w.heap.size + 1) [.int .i64 0, .bool true, .int .i64 0, .string ⟨#[]⟩, .bool false] 33 := by rw [hW3]; exact (((((HQ.set 0 (.int .i64 0)).set 1 (.bool true)).set 2 (.int .i64 0)).set 3 (.string ⟨#[]⟩)).set 4 (.bool false))
          have hbW3 : Below w.heap.size w W3 := by rw [hW3]; exact (((((hbW2.setCell (p := ⟨w.heap.size + 1, 0, none⟩) (by first | exact Nat.le_refl _ | (simp; done) | (simp; omega) | omega) _).setCell (p := ⟨w.heap.size + 1, 1, none⟩) (by first | exact Nat.le_refl _ | (simp; done) | (simp; omega) | omega) _).setCell (p := ⟨w.heap.size + 1, 2, none⟩) (by first | exact Nat.le_refl _ | (simp; done) | (simp; omega) | omega) _).setCell (p := ⟨w.heap.size + 1, 3, none⟩) (by first | exact Nat.le_refl _ | (simp; done) | (simp; omega) | omega) _).setCell (p := ⟨w.heap.size + 1, 4, none⟩) (by first | exact Nat.le_refl _ | (simp; done) | (simp; omega) | omega) _)
          have hzW3 : W3.heap.size = W2.heap.size := by rw [hW3]; simp
          replace hW3 := Lib.hid hW3
          have hf : post (.returned (.tuple #[.agg #[.int .i64 0, .bool true, .int .i64 0, .string ⟨#[]⟩, .bool false], .agg #[.int .i64 0, .bool true, .int .i64 0, .string ⟨#[]⟩, .bool false], .bool false])) W3 := by rw [← hpost.out]; exact ⟨rfl, hbW3⟩
          replace hf := Lib.hid hf
          have r0 := Lib.hid (HP.cell (o := 0) rfl)
          have r1 := Lib.hid (HP.cell (o := 1) rfl)
          have r2 := Lib.hid (HP.cell (o := 2) rfl)
          have r3 := Lib.hid (HP.cell (o := 3) rfl)
          have r4 := Lib.hid (HP.cell (o := 4) rfl)
          have s0 := Lib.hid (HQ.cell (o := 0) rfl)
          have s1 := Lib.hid (HQ.cell (o := 1) rfl)
          have s2 := Lib.hid (HQ.cell (o := 2) rfl)
          have s3 := Lib.hid (HQ.cell (o := 3) rfl)
          have s4 := Lib.hid (HQ.cell (o := 4) rfl)
          replace hzW1 := Lib.hid hzW1
          replace hzW2 := Lib.hid hzW2
          replace hzW3 := Lib.hid hzW3
          go_wp2_with fail
          rw [show ((((wn2.setCell ⟨w.heap.size, 0, none⟩ (.int .i64 0)).setCell ⟨w.heap.size, 1, none⟩ (.bool true)).setCell ⟨w.heap.size, 2, none⟩ (.int .i64 0)).setCell ⟨w.heap.size, 3, none⟩ (.string ⟨#[]⟩)).setCell ⟨w.heap.size, 4, none⟩ (.bool false) = W2 from hW2.out.symm]
          rw [show ((((W2.setCell ⟨w.heap.size + 1, 0, none⟩ (.int .i64 0)).setCell ⟨w.heap.size + 1, 1, none⟩ (.bool true)).setCell ⟨w.heap.size + 1, 2, none⟩ (.int .i64 0)).setCell ⟨w.heap.size + 1, 3, none⟩ (.string ⟨#[]⟩)).setCell ⟨w.heap.size + 1, 4, none⟩ (.bool false) = W3 from hW3.out.symm]
          exact bodyPost_ret (v := .tuple #[.agg #[.int .i64 0, .bool true, .int .i64 0, .string ⟨#[]⟩, .bool false], .agg #[.int .i64 0, .bool true, .int .i64 0, .string ⟨#[]⟩, .bool false], .bool false]) (by simp [results, Tryz.results12, go_sem, r0.out, r1.out, r2.out, r3.out, r4.out, s0.out, s1.out, s2.out, s3.out, s4.out]) rfl hf.out
end Go.Proofs.YtgnoikfmhncbmaaGreatDoor
