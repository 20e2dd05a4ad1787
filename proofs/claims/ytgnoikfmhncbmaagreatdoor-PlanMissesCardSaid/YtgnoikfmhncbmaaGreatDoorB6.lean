/- Walks: isPair. Walks: simple. -/
import Derived.Test.YtgnoikfmhncbmaaGreatDoorB4
set_option linter.unusedVariables false
set_option linter.unusedSimpArgs false
namespace Go.Proofs.YtgnoikfmhncbmaaGreatDoor
open Go.RowKit Go.Lib
theorem ptr_nil {t : AT} (h : t.isNil = true) : t.ptr = .pointer none := by cases t <;> simp_all [AT.isNil, AT.ptr]
theorem ptr_some {t : AT} (h : t.isNil = false) : ∃ b, t.ptr = .pointer (some ⟨b, 0, none⟩) := by cases t <;> simp_all [AT.isNil, AT.ptr]
theorem ispair_any (b op : Nat) (cc : ByteArray) (v : RV) (l r : AT) (w : World) (h : Has w b (exCells op l.ptr r.ptr cc v) 46) : Calls Tryz.prog 53 #[.pointer (some ⟨b, 0, none⟩)] w fun e w' => e = .returned (.bool (pairB op l r)) ∧ w = w' := by
  generalize hpost : (fun (e : Ending) w' => e = .returned (.bool (pairB op l r)) ∧ w = w') = post
  have hf : post (.returned (.bool (pairB op l r))) w := by rw [← hpost]; exact ⟨rfl, rfl⟩
  clear hpost
  have c0 := h.cell (o := 0) rfl
  have c1 := h.cell (o := 1) rfl
  have c2 := h.cell (o := 2) rfl
  clear h
  have e1 : ((op : Int) == 1) = decide (op = 1) := by rw [Bool.eq_iff_iff]; simp; omega
  have e2 : ((op : Int) == 2) = decide (op = 2) := by rw [Bool.eq_iff_iff]; simp; omega
  have hp : pairB op l r = ((decide (op = 1) || decide (op = 2)) && !l.isNil && !r.isNil) := rfl
  generalize pairB op l r = rs at *
  generalize decide (op = 1) = o1 at *
  generalize decide (op = 2) = o2 at *
  have hl : (l.isNil = true ∧ l.ptr = .pointer none) ∨ (l.isNil = false ∧ ∃ b, l.ptr = .pointer (some ⟨b, 0, none⟩)) := by
    cases hn : l.isNil
    · exact .inr ⟨rfl, ptr_some hn⟩
    · exact .inl ⟨rfl, ptr_nil hn⟩
  have hr : (r.isNil = true ∧ r.ptr = .pointer none) ∨ (r.isNil = false ∧ ∃ b, r.ptr = .pointer (some ⟨b, 0, none⟩)) := by
    cases hn : r.isNil
    · exact .inr ⟨rfl, ptr_some hn⟩
    · exact .inl ⟨rfl, ptr_nil hn⟩
  cases o1 <;> cases o2
  all_goals
    rcases hl with ⟨hl1, hl2⟩ | ⟨hl1, bl, hl2⟩ <;> rcases hr with ⟨hr1, hr2⟩ | ⟨hr1, br, hr2⟩
    all_goals
      rw [hl2] at c1
      rw [hr2] at c2
      rw [hl1, hr1] at hp
      simp only [Bool.or_true, Bool.true_or, Bool.or_self, Bool.not_true, Bool.not_false, Bool.and_true, Bool.and_false, Bool.false_and, Bool.true_and, Bool.and_self, Bool.or_false, Bool.false_or] at hp
      subst hp
      replace hf := Lib.hid hf
      clear hl1 hl2 hr1 hr2
      go_enter Tryz.func53, Tryz.ntmps53
      go_wp2_with fail
      first | exact hf.out | (go_ret; exact hf.out)
end Go.Proofs.YtgnoikfmhncbmaaGreatDoor

namespace Go.Proofs.YtgnoikfmhncbmaaGreatDoor
open Go.RowKit Go.Lib
theorem str_eq (a b : ByteArray) : (a.toList == b.toList) = decide (a = b) := by
  rw [ByteArray.toList_eq, ByteArray.toList_eq, Bool.eq_iff_iff]
  simp only [beq_iff_eq, decide_eq_true_eq]
  constructor
  · intro h
    cases a; cases b
    simp only [ByteArray.mk.injEq]
    exact Array.toList_inj.1 h
  · rintro rfl; rfl
set_option maxHeartbeats 4000000 in
set_option maxRecDepth 100000 in
theorem simple_any (b op : Nat) (cc col : ByteArray) (v : RV) (pl pr : Value) (w : World) (HE : Has w b (exCells op pl pr cc v) 46) : Calls Tryz.prog 54 #[.pointer (some ⟨b, 0, none⟩), .string col] w (RPost w (simpP op cc col v).val) := by
  have hu : ∀ w : World, Calls Tryz.prog 28 #[.bool false] w (RPost w (.agg #[.int .u8 0, .bool true, .int .i64 0, .string ⟨#[]⟩, .bool false, .int .u8 0, .bool true, .int .i64 0, .string ⟨#[]⟩, .bool false, .bool false])) := unb_any false
  have hres : simpP op cc col v = if cc ≠ col ∨ v.nl = true then spN false else if op = 4 then ⟨v, v, true⟩ else if op = 7 then ⟨RVN, v, true⟩ else if op = 6 then ⟨RVN, v, false⟩ else if op = 9 then ⟨v, RVN, true⟩ else if op = 8 then ⟨v, RVN, false⟩ else spN false := rfl
  have hlt := HE.lt
  obtain ⟨tv, nv, iv, xv, bv⟩ := v
  unfold exCells at HE
  dsimp only at HE hres
  generalize simpP op cc col ⟨tv, nv, iv, xv, bv⟩ = rs at *
  generalize hpost : RPost w rs.val = post
  replace hpost := Lib.hid hpost
  replace hu := Lib.hid hu
  replace hres := Lib.hid hres
  obtain ⟨W1, hW1⟩ : ∃ W1, W1 = w.alloc (.cells #[.int .u8 0, .bool false, .int .i64 0, .string ⟨#[]⟩, .bool false, .int .u8 0, .bool false, .int .i64 0, .string ⟨#[]⟩, .bool false, .bool false] 92) := ⟨_, rfl⟩
  replace HE : Has W1 (b) [.int .u8 (op : Int), pl, pr, .string cc, .int .u8 (tv : Int), .bool nv, .int .i64 iv, .string xv, .bool bv] 46 := by rw [hW1]; exact (HE.alloc _)
  have HR : Has W1 (w.heap.size) [.int .u8 0, .bool false, .int .i64 0, .string ⟨#[]⟩, .bool false, .int .u8 0, .bool false, .int .i64 0, .string ⟨#[]⟩, .bool false, .bool false] 92 := by
    rw [hW1]; have h := Has.new (w) [.int .u8 0, .bool false, .int .i64 0, .string ⟨#[]⟩, .bool false, .int .u8 0, .bool false, .int .i64 0, .string ⟨#[]⟩, .bool false, .bool false] 92; (try simp only [World.size_alloc] at h); exact h
  have hbW1 : Below w.heap.size w W1 := by rw [hW1]; exact ((Below.refl _ _).alloc (by first | exact Nat.le_refl _ | (simp only [World.size_alloc]; omega)) _)
  have hzW1 : W1.heap.size = w.heap.size + 1 := by rw [hW1]; simp
  replace hW1 := Lib.hid hW1
  go_enter Tryz.func54, Tryz.ntmps54
  replace hzW1 := Lib.hid hzW1
  go_wp2_with fail
  replace hzW1 := hzW1.out
  rw [show w.alloc (.cells #[.int .u8 0, .bool false, .int .i64 0, .string ⟨#[]⟩, .bool false, .int .u8 0, .bool false, .int .i64 0, .string ⟨#[]⟩, .bool false, .bool false] 92) = W1 from hW1.out.symm]
  refine (hu.out _).mono ?_
  rintro e w1 ⟨rfl, hb1⟩
  replace HE : Has w1 (b) [.int .u8 (op : Int), pl, pr, .string cc, .int .u8 (tv : Int), .bool nv, .int .i64 iv, .string xv, .bool bv] 46 := HE.only (Only.of_below hb1) (Nat.not_le.2 HE.lt)
  replace HR : Has w1 (w.heap.size) [.int .u8 0, .bool false, .int .i64 0, .string ⟨#[]⟩, .bool false, .int .u8 0, .bool false, .int .i64 0, .string ⟨#[]⟩, .bool false, .bool false] 92 := HR.only (Only.of_below hb1) (Nat.not_le.2 HR.lt)
  have hbw1 : Below w.heap.size w w1 := hbW1.trans (hb1.mono hbW1.size)
  have hzw1 := hb1.size
  replace hb1 := Lib.hid hb1
  obtain ⟨W2, hW2⟩ : ∃ W2, W2 = w1.alloc (.cells #[.int .u8 0, .bool true, .int .i64 0, .string ⟨#[]⟩, .bool false, .int .u8 0, .bool true, .int .i64 0, .string ⟨#[]⟩, .bool false, .bool false] 92) := ⟨_, rfl⟩
  replace HE : Has W2 (b) [.int .u8 (op : Int), pl, pr, .string cc, .int .u8 (tv : Int), .bool nv, .int .i64 iv, .string xv, .bool bv] 46 := by rw [hW2]; exact (HE.alloc _)
  replace HR : Has W2 (w.heap.size) [.int .u8 0, .bool false, .int .i64 0, .string ⟨#[]⟩, .bool false, .int .u8 0, .bool false, .int .i64 0, .string ⟨#[]⟩, .bool false, .bool false] 92 := by rw [hW2]; exact (HR.alloc _)
  have HS : Has W2 (w1.heap.size) [.int .u8 0, .bool true, .int .i64 0, .string ⟨#[]⟩, .bool false, .int .u8 0, .bool true, .int .i64 0, .string ⟨#[]⟩, .bool false, .bool false] 92 := by
    rw [hW2]; have h := Has.new (w1) [.int .u8 0, .bool true, .int .i64 0, .string ⟨#[]⟩, .bool false, .int .u8 0, .bool true, .int .i64 0, .string ⟨#[]⟩, .bool false, .bool false] 92; (try simp only [World.size_alloc] at h); exact h
  have hbW2 : Below w.heap.size w W2 := by rw [hW2]; exact (hbw1.alloc (by have := hbw1.size; (try simp only [World.size_alloc]); omega) _)
  have hzW2 : W2.heap.size = w1.heap.size + 1 := by rw [hW2]; simp
  replace hW2 := Lib.hid hW2
  have hlt0 : w.heap.size < w1.heap.size := by omega
  go_upto_region 2 with fail
  rw [show w1.alloc (.cells #[.int .u8 0, .bool true, .int .i64 0, .string ⟨#[]⟩, .bool false, .int .u8 0, .bool true, .int .i64 0, .string ⟨#[]⟩, .bool false, .bool false] 92) = W2 from hW2.out.symm]
  by_cases hcc : cc = col
  · have hs : (cc.toList == col.toList) = true := by rw [str_eq]; exact decide_eq_true hcc
    replace hcc := Lib.hid hcc
    cases nv with
    | true =>
      have cE0 := HE.cell (o := 0) rfl
      have cE1 := HE.cell (o := 1) rfl
      have cE2 := HE.cell (o := 2) rfl
      have cE3 := HE.cell (o := 3) rfl
      have cE4 := HE.cell (o := 4) rfl
      have cE5 := HE.cell (o := 5) rfl
      have cE6 := HE.cell (o := 6) rfl
      have cE7 := HE.cell (o := 7) rfl
      have cE8 := HE.cell (o := 8) rfl
      have cR0 := HR.cell (o := 0) rfl
      have cR1 := HR.cell (o := 1) rfl
      have cR2 := HR.cell (o := 2) rfl
      have cR3 := HR.cell (o := 3) rfl
      have cR4 := HR.cell (o := 4) rfl
      have cR5 := HR.cell (o := 5) rfl
      have cR6 := HR.cell (o := 6) rfl
      have cR7 := HR.cell (o := 7) rfl
      have cR8 := HR.cell (o := 8) rfl
      have cR9 := HR.cell (o := 9) rfl
      have cR10 := HR.cell (o := 10) rfl
      have cS0 := HS.cell (o := 0) rfl
      have cS1 := HS.cell (o := 1) rfl
      have cS2 := HS.cell (o := 2) rfl
      have cS3 := HS.cell (o := 3) rfl
      have cS4 := HS.cell (o := 4) rfl
      have cS5 := HS.cell (o := 5) rfl
      have cS6 := HS.cell (o := 6) rfl
      have cS7 := HS.cell (o := 7) rfl
      have cS8 := HS.cell (o := 8) rfl
      have cS9 := HS.cell (o := 9) rfl
      have cS10 := HS.cell (o := 10) rfl
      have fR0 := HR.free 0
      have fR1 := HR.free 1
      have fR2 := HR.free 2
      have fR3 := HR.free 3
      have fR4 := HR.free 4
      have fR5 := HR.free 5
      have fR6 := HR.free 6
      have fR7 := HR.free 7
      have fR8 := HR.free 8
      have fR9 := HR.free 9
      have fR10 := HR.free 10
      have fS0 := HS.free 0
      have fS1 := HS.free 1
      have fS2 := HS.free 2
      have fS3 := HS.free 3
      have fS4 := HS.free 4
      have fS5 := HS.free 5
      have fS6 := HS.free 6
      have fS7 := HS.free 7
      have fS8 := HS.free 8
      have fS9 := HS.free 9
      have fS10 := HS.free 10
      obtain ⟨W3, hW3⟩ : ∃ W3, W3 = ((((((((((W2.setCell ⟨w.heap.size, 0, none⟩ (.int .u8 0)).setCell ⟨w.heap.size, 1, none⟩ (.bool true)).setCell ⟨w.heap.size, 2, none⟩ (.int .i64 0)).setCell ⟨w.heap.size, 3, none⟩ (.string ⟨#[]⟩)).setCell ⟨w.heap.size, 4, none⟩ (.bool false)).setCell ⟨w.heap.size, 5, none⟩ (.int .u8 0)).setCell ⟨w.heap.size, 6, none⟩ (.bool true)).setCell ⟨w.heap.size, 7, none⟩ (.int .i64 0)).setCell ⟨w.heap.size, 8, none⟩ (.string ⟨#[]⟩)).setCell ⟨w.heap.size, 9, none⟩ (.bool false)).setCell ⟨w.heap.size, 10, none⟩ (.bool false) := ⟨_, rfl⟩
      replace HE : Has W3 (b) [.int .u8 (op : Int), pl, pr, .string cc, .int .u8 (tv : Int), .bool true, .int .i64 iv, .string xv, .bool bv] 46 := by rw [hW3]; exact (((((((((((HE.set_ne (a := ⟨w.heap.size, 0, none⟩) (by first | (simp; done) | (simp; omega) | omega) _).set_ne (a := ⟨w.heap.size, 1, none⟩) (by first | (simp; done) | (simp; omega) | omega) _).set_ne (a := ⟨w.heap.size, 2, none⟩) (by first | (simp; done) | (simp; omega) | omega) _).set_ne (a := ⟨w.heap.size, 3, none⟩) (by first | (simp; done) | (simp; omega) | omega) _).set_ne (a := ⟨w.heap.size, 4, none⟩) (by first | (simp; done) | (simp; omega) | omega) _).set_ne (a := ⟨w.heap.size, 5, none⟩) (by first | (simp; done) | (simp; omega) | omega) _).set_ne (a := ⟨w.heap.size, 6, none⟩) (by first | (simp; done) | (simp; omega) | omega) _).set_ne (a := ⟨w.heap.size, 7, none⟩) (by first | (simp; done) | (simp; omega) | omega) _).set_ne (a := ⟨w.heap.size, 8, none⟩) (by first | (simp; done) | (simp; omega) | omega) _).set_ne (a := ⟨w.heap.size, 9, none⟩) (by first | (simp; done) | (simp; omega) | omega) _).set_ne (a := ⟨w.heap.size, 10, none⟩) (by first | (simp; done) | (simp; omega) | omega) _)
      replace HS : Has W3 (w1.heap.size) [.int .u8 0, .bool true, .int .i64 0, .string ⟨#[]⟩, .bool false, .int .u8 0, .bool true, .int .i64 0, .string ⟨#[]⟩, .bool false, .bool false] 92 := by rw [hW3]; exact (((((((((((HS.set_ne (a := ⟨w.heap.size, 0, none⟩) (by first | (simp; done) | (simp; omega) | omega) _).set_ne (a := ⟨w.heap.size, 1, none⟩) (by first | (simp; done) | (simp; omega) | omega) _).set_ne (a := ⟨w.heap.size, 2, none⟩) (by first | (simp; done) | (simp; omega) | omega) _).set_ne (a := ⟨w.heap.size, 3, none⟩) (by first | (simp; done) | (simp; omega) | omega) _).set_ne (a := ⟨w.heap.size, 4, none⟩) (by first | (simp; done) | (simp; omega) | omega) _).set_ne (a := ⟨w.heap.size, 5, none⟩) (by first | (simp; done) | (simp; omega) | omega) _).set_ne (a := ⟨w.heap.size, 6, none⟩) (by first | (simp; done) | (simp; omega) | omega) _).set_ne (a := ⟨w.heap.size, 7, none⟩) (by first | (simp; done) | (simp; omega) | omega) _).set_ne (a := ⟨w.heap.size, 8, none⟩) (by first | (simp; done) | (simp; omega) | omega) _).set_ne (a := ⟨w.heap.size, 9, none⟩) (by first | (simp; done) | (simp; omega) | omega) _).set_ne (a := ⟨w.heap.size, 10, none⟩) (by first | (simp; done) | (simp; omega) | omega) _)
      replace HR : Has W3 (w.heap.size) [.int .u8 0, .bool true, .int .i64 0, .string ⟨#[]⟩, .bool false, .int .u8 0, .bool true, .int .i64 0, .string ⟨#[]⟩, .bool false, .bool false] 92 := by rw [hW3]; exact (((((((((((HR.set 0 (.int .u8 0)).set 1 (.bool true)).set 2 (.int .i64 0)).set 3 (.string ⟨#[]⟩)).set 4 (.bool false)).set 5 (.int .u8 0)).set 6 (.bool true)).set 7 (.int .i64 0)).set 8 (.string ⟨#[]⟩)).set 9 (.bool false)).set 10 (.bool false))
      have hbW3 : Below w.heap.size w W3 := by rw [hW3]; exact (((((((((((hbW2.setCell (p := ⟨w.heap.size, 0, none⟩) (by first | exact Nat.le_refl _ | (simp; omega) | omega) _).setCell (p := ⟨w.heap.size, 1, none⟩) (by first | exact Nat.le_refl _ | (simp; omega) | omega) _).setCell (p := ⟨w.heap.size, 2, none⟩) (by first | exact Nat.le_refl _ | (simp; omega) | omega) _).setCell (p := ⟨w.heap.size, 3, none⟩) (by first | exact Nat.le_refl _ | (simp; omega) | omega) _).setCell (p := ⟨w.heap.size, 4, none⟩) (by first | exact Nat.le_refl _ | (simp; omega) | omega) _).setCell (p := ⟨w.heap.size, 5, none⟩) (by first | exact Nat.le_refl _ | (simp; omega) | omega) _).setCell (p := ⟨w.heap.size, 6, none⟩) (by first | exact Nat.le_refl _ | (simp; omega) | omega) _).setCell (p := ⟨w.heap.size, 7, none⟩) (by first | exact Nat.le_refl _ | (simp; omega) | omega) _).setCell (p := ⟨w.heap.size, 8, none⟩) (by first | exact Nat.le_refl _ | (simp; omega) | omega) _).setCell (p := ⟨w.heap.size, 9, none⟩) (by first | exact Nat.le_refl _ | (simp; omega) | omega) _).setCell (p := ⟨w.heap.size, 10, none⟩) (by first | exact Nat.le_refl _ | (simp; omega) | omega) _)
      have hzW3 : W3.heap.size = W2.heap.size := by rw [hW3]; simp
      replace hW3 := Lib.hid hW3
      have hf : post (.returned (.agg #[.int .u8 0, .bool true, .int .i64 0, .string ⟨#[]⟩, .bool false, .int .u8 0, .bool true, .int .i64 0, .string ⟨#[]⟩, .bool false, .bool false])) W3 := by
        rw [← hpost.out, hres.out]
        simp only [ne_eq, not_true_eq_false, not_false_eq_true, false_or, true_or, or_true, or_false, if_true, if_false, Bool.false_eq_true, hcc.out]
        exact ⟨rfl, hbW3⟩
      replace hf := Lib.hid hf
      have r0 := Lib.hid (HR.cell (o := 0) rfl)
      have r1 := Lib.hid (HR.cell (o := 1) rfl)
      have r2 := Lib.hid (HR.cell (o := 2) rfl)
      have r3 := Lib.hid (HR.cell (o := 3) rfl)
      have r4 := Lib.hid (HR.cell (o := 4) rfl)
      have r5 := Lib.hid (HR.cell (o := 5) rfl)
      have r6 := Lib.hid (HR.cell (o := 6) rfl)
      have r7 := Lib.hid (HR.cell (o := 7) rfl)
      have r8 := Lib.hid (HR.cell (o := 8) rfl)
      have r9 := Lib.hid (HR.cell (o := 9) rfl)
      have r10 := Lib.hid (HR.cell (o := 10) rfl)
      replace hzW1 := Lib.hid hzW1
      replace hzW2 := Lib.hid hzW2
      replace hzW3 := Lib.hid hzW3
      go_wp2_with fail
      rw [show ((((((((((W2.setCell ⟨w.heap.size, 0, none⟩ (.int .u8 0)).setCell ⟨w.heap.size, 1, none⟩ (.bool true)).setCell ⟨w.heap.size, 2, none⟩ (.int .i64 0)).setCell ⟨w.heap.size, 3, none⟩ (.string ⟨#[]⟩)).setCell ⟨w.heap.size, 4, none⟩ (.bool false)).setCell ⟨w.heap.size, 5, none⟩ (.int .u8 0)).setCell ⟨w.heap.size, 6, none⟩ (.bool true)).setCell ⟨w.heap.size, 7, none⟩ (.int .i64 0)).setCell ⟨w.heap.size, 8, none⟩ (.string ⟨#[]⟩)).setCell ⟨w.heap.size, 9, none⟩ (.bool false)).setCell ⟨w.heap.size, 10, none⟩ (.bool false) = W3 from hW3.out.symm]
      exact bodyPost_ret (v := .agg #[.int .u8 0, .bool true, .int .i64 0, .string ⟨#[]⟩, .bool false, .int .u8 0, .bool true, .int .i64 0, .string ⟨#[]⟩, .bool false, .bool false]) (by simp [results, Tryz.results54, go_sem, r0.out, r1.out, r2.out, r3.out, r4.out, r5.out, r6.out, r7.out, r8.out, r9.out, r10.out]) rfl hf.out
    | false =>
      by_cases h4 : op = 4
      · have hd4 : ((op : Int) == 4) = true := by simp; omega
        replace h4 := Lib.hid h4
        have cE0 := HE.cell (o := 0) rfl
        have cE1 := HE.cell (o := 1) rfl
        have cE2 := HE.cell (o := 2) rfl
        have cE3 := HE.cell (o := 3) rfl
        have cE4 := HE.cell (o := 4) rfl
        have cE5 := HE.cell (o := 5) rfl
        have cE6 := HE.cell (o := 6) rfl
        have cE7 := HE.cell (o := 7) rfl
        have cE8 := HE.cell (o := 8) rfl
        have cR0 := HR.cell (o := 0) rfl
        have cR1 := HR.cell (o := 1) rfl
        have cR2 := HR.cell (o := 2) rfl
        have cR3 := HR.cell (o := 3) rfl
        have cR4 := HR.cell (o := 4) rfl
        have cR5 := HR.cell (o := 5) rfl
        have cR6 := HR.cell (o := 6) rfl
        have cR7 := HR.cell (o := 7) rfl
        have cR8 := HR.cell (o := 8) rfl
        have cR9 := HR.cell (o := 9) rfl
        have cR10 := HR.cell (o := 10) rfl
        have cS0 := HS.cell (o := 0) rfl
        have cS1 := HS.cell (o := 1) rfl
        have cS2 := HS.cell (o := 2) rfl
        have cS3 := HS.cell (o := 3) rfl
        have cS4 := HS.cell (o := 4) rfl
        have cS5 := HS.cell (o := 5) rfl
        have cS6 := HS.cell (o := 6) rfl
        have cS7 := HS.cell (o := 7) rfl
        have cS8 := HS.cell (o := 8) rfl
        have cS9 := HS.cell (o := 9) rfl
        have cS10 := HS.cell (o := 10) rfl
        have fR0 := HR.free 0
        have fR1 := HR.free 1
        have fR2 := HR.free 2
        have fR3 := HR.free 3
        have fR4 := HR.free 4
        have fR5 := HR.free 5
        have fR6 := HR.free 6
        have fR7 := HR.free 7
        have fR8 := HR.free 8
        have fR9 := HR.free 9
        have fR10 := HR.free 10
        have fS0 := HS.free 0
        have fS1 := HS.free 1
        have fS2 := HS.free 2
        have fS3 := HS.free 3
        have fS4 := HS.free 4
        have fS5 := HS.free 5
        have fS6 := HS.free 6
        have fS7 := HS.free 7
        have fS8 := HS.free 8
        have fS9 := HS.free 9
        have fS10 := HS.free 10
        obtain ⟨W3, hW3⟩ : ∃ W3, W3 = ((((((((((W2.setCell ⟨w.heap.size, 0, none⟩ (.int .u8 (tv : Int))).setCell ⟨w.heap.size, 1, none⟩ (.bool false)).setCell ⟨w.heap.size, 2, none⟩ (.int .i64 iv)).setCell ⟨w.heap.size, 3, none⟩ (.string xv)).setCell ⟨w.heap.size, 4, none⟩ (.bool bv)).setCell ⟨w.heap.size, 5, none⟩ (.int .u8 (tv : Int))).setCell ⟨w.heap.size, 6, none⟩ (.bool false)).setCell ⟨w.heap.size, 7, none⟩ (.int .i64 iv)).setCell ⟨w.heap.size, 8, none⟩ (.string xv)).setCell ⟨w.heap.size, 9, none⟩ (.bool bv)).setCell ⟨w.heap.size, 10, none⟩ (.bool true) := ⟨_, rfl⟩
        replace HE : Has W3 (b) [.int .u8 (op : Int), pl, pr, .string cc, .int .u8 (tv : Int), .bool false, .int .i64 iv, .string xv, .bool bv] 46 := by rw [hW3]; exact (((((((((((HE.set_ne (a := ⟨w.heap.size, 0, none⟩) (by first | (simp; done) | (simp; omega) | omega) _).set_ne (a := ⟨w.heap.size, 1, none⟩) (by first | (simp; done) | (simp; omega) | omega) _).set_ne (a := ⟨w.heap.size, 2, none⟩) (by first | (simp; done) | (simp; omega) | omega) _).set_ne (a := ⟨w.heap.size, 3, none⟩) (by first | (simp; done) | (simp; omega) | omega) _).set_ne (a := ⟨w.heap.size, 4, none⟩) (by first | (simp; done) | (simp; omega) | omega) _).set_ne (a := ⟨w.heap.size, 5, none⟩) (by first | (simp; done) | (simp; omega) | omega) _).set_ne (a := ⟨w.heap.size, 6, none⟩) (by first | (simp; done) | (simp; omega) | omega) _).set_ne (a := ⟨w.heap.size, 7, none⟩) (by first | (simp; done) | (simp; omega) | omega) _).set_ne (a := ⟨w.heap.size, 8, none⟩) (by first | (simp; done) | (simp; omega) | omega) _).set_ne (a := ⟨w.heap.size, 9, none⟩) (by first | (simp; done) | (simp; omega) | omega) _).set_ne (a := ⟨w.heap.size, 10, none⟩) (by first | (simp; done) | (simp; omega) | omega) _)
        replace HS : Has W3 (w1.heap.size) [.int .u8 0, .bool true, .int .i64 0, .string ⟨#[]⟩, .bool false, .int .u8 0, .bool true, .int .i64 0, .string ⟨#[]⟩, .bool false, .bool false] 92 := by rw [hW3]; exact (((((((((((HS.set_ne (a := ⟨w.heap.size, 0, none⟩) (by first | (simp; done) | (simp; omega) | omega) _).set_ne (a := ⟨w.heap.size, 1, none⟩) (by first | (simp; done) | (simp; omega) | omega) _).set_ne (a := ⟨w.heap.size, 2, none⟩) (by first | (simp; done) | (simp; omega) | omega) _).set_ne (a := ⟨w.heap.size, 3, none⟩) (by first | (simp; done) | (simp; omega) | omega) _).set_ne (a := ⟨w.heap.size, 4, none⟩) (by first | (simp; done) | (simp; omega) | omega) _).set_ne (a := ⟨w.heap.size, 5, none⟩) (by first | (simp; done) | (simp; omega) | omega) _).set_ne (a := ⟨w.heap.size, 6, none⟩) (by first | (simp; done) | (simp; omega) | omega) _).set_ne (a := ⟨w.heap.size, 7, none⟩) (by first | (simp; done) | (simp; omega) | omega) _).set_ne (a := ⟨w.heap.size, 8, none⟩) (by first | (simp; done) | (simp; omega) | omega) _).set_ne (a := ⟨w.heap.size, 9, none⟩) (by first | (simp; done) | (simp; omega) | omega) _).set_ne (a := ⟨w.heap.size, 10, none⟩) (by first | (simp; done) | (simp; omega) | omega) _)
        replace HR : Has W3 (w.heap.size) [.int .u8 (tv : Int), .bool false, .int .i64 iv, .string xv, .bool bv, .int .u8 (tv : Int), .bool false, .int .i64 iv, .string xv, .bool bv, .bool true] 92 := by rw [hW3]; exact (((((((((((HR.set 0 (.int .u8 (tv : Int))).set 1 (.bool false)).set 2 (.int .i64 iv)).set 3 (.string xv)).set 4 (.bool bv)).set 5 (.int .u8 (tv : Int))).set 6 (.bool false)).set 7 (.int .i64 iv)).set 8 (.string xv)).set 9 (.bool bv)).set 10 (.bool true))
        have hbW3 : Below w.heap.size w W3 := by rw [hW3]; exact (((((((((((hbW2.setCell (p := ⟨w.heap.size, 0, none⟩) (by first | exact Nat.le_refl _ | (simp; omega) | omega) _).setCell (p := ⟨w.heap.size, 1, none⟩) (by first | exact Nat.le_refl _ | (simp; omega) | omega) _).setCell (p := ⟨w.heap.size, 2, none⟩) (by first | exact Nat.le_refl _ | (simp; omega) | omega) _).setCell (p := ⟨w.heap.size, 3, none⟩) (by first | exact Nat.le_refl _ | (simp; omega) | omega) _).setCell (p := ⟨w.heap.size, 4, none⟩) (by first | exact Nat.le_refl _ | (simp; omega) | omega) _).setCell (p := ⟨w.heap.size, 5, none⟩) (by first | exact Nat.le_refl _ | (simp; omega) | omega) _).setCell (p := ⟨w.heap.size, 6, none⟩) (by first | exact Nat.le_refl _ | (simp; omega) | omega) _).setCell (p := ⟨w.heap.size, 7, none⟩) (by first | exact Nat.le_refl _ | (simp; omega) | omega) _).setCell (p := ⟨w.heap.size, 8, none⟩) (by first | exact Nat.le_refl _ | (simp; omega) | omega) _).setCell (p := ⟨w.heap.size, 9, none⟩) (by first | exact Nat.le_refl _ | (simp; omega) | omega) _).setCell (p := ⟨w.heap.size, 10, none⟩) (by first | exact Nat.le_refl _ | (simp; omega) | omega) _)
        have hzW3 : W3.heap.size = W2.heap.size := by rw [hW3]; simp
        replace hW3 := Lib.hid hW3
        have hf : post (.returned (.agg #[.int .u8 (tv : Int), .bool false, .int .i64 iv, .string xv, .bool bv, .int .u8 (tv : Int), .bool false, .int .i64 iv, .string xv, .bool bv, .bool true])) W3 := by
          rw [← hpost.out, hres.out]
          simp only [ne_eq, not_true_eq_false, not_false_eq_true, false_or, true_or, or_true, or_false, if_true, if_false, Bool.false_eq_true, hcc.out, h4.out]
          exact ⟨rfl, hbW3⟩
        replace hf := Lib.hid hf
        have r0 := Lib.hid (HR.cell (o := 0) rfl)
        have r1 := Lib.hid (HR.cell (o := 1) rfl)
        have r2 := Lib.hid (HR.cell (o := 2) rfl)
        have r3 := Lib.hid (HR.cell (o := 3) rfl)
        have r4 := Lib.hid (HR.cell (o := 4) rfl)
        have r5 := Lib.hid (HR.cell (o := 5) rfl)
        have r6 := Lib.hid (HR.cell (o := 6) rfl)
        have r7 := Lib.hid (HR.cell (o := 7) rfl)
        have r8 := Lib.hid (HR.cell (o := 8) rfl)
        have r9 := Lib.hid (HR.cell (o := 9) rfl)
        have r10 := Lib.hid (HR.cell (o := 10) rfl)
        replace hzW1 := Lib.hid hzW1
        replace hzW2 := Lib.hid hzW2
        replace hzW3 := Lib.hid hzW3
        go_wp2_with fail
        refine region_tail 9 (by kernel_rfl) (by kernel_rfl) ?_
        simp only [List.take_succ_cons, List.take_zero, List.drop_succ_cons, List.drop_zero]
        repeat still_step
        refine wpStill_nil ?_
        go_wp2_with fail
        rw [show ((((((((((W2.setCell ⟨w.heap.size, 0, none⟩ (.int .u8 (tv : Int))).setCell ⟨w.heap.size, 1, none⟩ (.bool false)).setCell ⟨w.heap.size, 2, none⟩ (.int .i64 iv)).setCell ⟨w.heap.size, 3, none⟩ (.string xv)).setCell ⟨w.heap.size, 4, none⟩ (.bool bv)).setCell ⟨w.heap.size, 5, none⟩ (.int .u8 (tv : Int))).setCell ⟨w.heap.size, 6, none⟩ (.bool false)).setCell ⟨w.heap.size, 7, none⟩ (.int .i64 iv)).setCell ⟨w.heap.size, 8, none⟩ (.string xv)).setCell ⟨w.heap.size, 9, none⟩ (.bool bv)).setCell ⟨w.heap.size, 10, none⟩ (.bool true) = W3 from hW3.out.symm]
        have hf2 : post (.returned (.agg #[.int .u8 (tv : Int), .bool false, .int .i64 iv, .string xv, .bool bv, .int .u8 (tv : Int), .bool false, .int .i64 iv, .string xv, .bool bv, .bool true])) W3.drew := by
          rw [← hpost.out, hres.out]
          simp only [ne_eq, not_true_eq_false, not_false_eq_true, false_or, true_or, or_true, or_false, if_true, if_false, Bool.false_eq_true, hcc.out, h4.out]
          exact ⟨rfl, hbW3.drew⟩
        exact bodyPost_ret (v := .agg #[.int .u8 (tv : Int), .bool false, .int .i64 iv, .string xv, .bool bv, .int .u8 (tv : Int), .bool false, .int .i64 iv, .string xv, .bool bv, .bool true]) (by simp [results, Tryz.results54, go_sem, r0.out, r1.out, r2.out, r3.out, r4.out, r5.out, r6.out, r7.out, r8.out, r9.out, r10.out]) rfl hf2
      by_cases h7 : op = 7
      · have hd4 : ((op : Int) == 4) = false := by simp; omega
        have hd7 : ((op : Int) == 7) = true := by simp; omega
        replace h4 := Lib.hid h4
        replace h7 := Lib.hid h7
        have cE0 := HE.cell (o := 0) rfl
        have cE1 := HE.cell (o := 1) rfl
        have cE2 := HE.cell (o := 2) rfl
        have cE3 := HE.cell (o := 3) rfl
        have cE4 := HE.cell (o := 4) rfl
        have cE5 := HE.cell (o := 5) rfl
        have cE6 := HE.cell (o := 6) rfl
        have cE7 := HE.cell (o := 7) rfl
        have cE8 := HE.cell (o := 8) rfl
        have cR0 := HR.cell (o := 0) rfl
        have cR1 := HR.cell (o := 1) rfl
        have cR2 := HR.cell (o := 2) rfl
        have cR3 := HR.cell (o := 3) rfl
        have cR4 := HR.cell (o := 4) rfl
        have cR5 := HR.cell (o := 5) rfl
        have cR6 := HR.cell (o := 6) rfl
        have cR7 := HR.cell (o := 7) rfl
        have cR8 := HR.cell (o := 8) rfl
        have cR9 := HR.cell (o := 9) rfl
        have cR10 := HR.cell (o := 10) rfl
        have cS0 := HS.cell (o := 0) rfl
        have cS1 := HS.cell (o := 1) rfl
        have cS2 := HS.cell (o := 2) rfl
        have cS3 := HS.cell (o := 3) rfl
        have cS4 := HS.cell (o := 4) rfl
        have cS5 := HS.cell (o := 5) rfl
        have cS6 := HS.cell (o := 6) rfl
        have cS7 := HS.cell (o := 7) rfl
        have cS8 := HS.cell (o := 8) rfl
        have cS9 := HS.cell (o := 9) rfl
        have cS10 := HS.cell (o := 10) rfl
        have fR0 := HR.free 0
        have fR1 := HR.free 1
        have fR2 := HR.free 2
        have fR3 := HR.free 3
        have fR4 := HR.free 4
        have fR5 := HR.free 5
        have fR6 := HR.free 6
        have fR7 := HR.free 7
        have fR8 := HR.free 8
        have fR9 := HR.free 9
        have fR10 := HR.free 10
        have fS0 := HS.free 0
        have fS1 := HS.free 1
        have fS2 := HS.free 2
        have fS3 := HS.free 3
        have fS4 := HS.free 4
        have fS5 := HS.free 5
        have fS6 := HS.free 6
        have fS7 := HS.free 7
        have fS8 := HS.free 8
        have fS9 := HS.free 9
        have fS10 := HS.free 10
        obtain ⟨W3, hW3⟩ : ∃ W3, W3 = ((((W2.setCell ⟨w1.heap.size, 5, none⟩ (.int .u8 (tv : Int))).setCell ⟨w1.heap.size, 6, none⟩ (.bool false)).setCell ⟨w1.heap.size, 7, none⟩ (.int .i64 iv)).setCell ⟨w1.heap.size, 8, none⟩ (.string xv)).setCell ⟨w1.heap.size, 9, none⟩ (.bool bv) := ⟨_, rfl⟩
        replace HE : Has W3 (b) [.int .u8 (op : Int), pl, pr, .string cc, .int .u8 (tv : Int), .bool false, .int .i64 iv, .string xv, .bool bv] 46 := by rw [hW3]; exact (((((HE.set_ne (a := ⟨w1.heap.size, 5, none⟩) (by first | (simp; done) | (simp; omega) | omega) _).set_ne (a := ⟨w1.heap.size, 6, none⟩) (by first | (simp; done) | (simp; omega) | omega) _).set_ne (a := ⟨w1.heap.size, 7, none⟩) (by first | (simp; done) | (simp; omega) | omega) _).set_ne (a := ⟨w1.heap.size, 8, none⟩) (by first | (simp; done) | (simp; omega) | omega) _).set_ne (a := ⟨w1.heap.size, 9, none⟩) (by first | (simp; done) | (simp; omega) | omega) _)
        replace HR : Has W3 (w.heap.size) [.int .u8 0, .bool false, .int .i64 0, .string ⟨#[]⟩, .bool false, .int .u8 0, .bool false, .int .i64 0, .string ⟨#[]⟩, .bool false, .bool false] 92 := by rw [hW3]; exact (((((HR.set_ne (a := ⟨w1.heap.size, 5, none⟩) (by first | (simp; done) | (simp; omega) | omega) _).set_ne (a := ⟨w1.heap.size, 6, none⟩) (by first | (simp; done) | (simp; omega) | omega) _).set_ne (a := ⟨w1.heap.size, 7, none⟩) (by first | (simp; done) | (simp; omega) | omega) _).set_ne (a := ⟨w1.heap.size, 8, none⟩) (by first | (simp; done) | (simp; omega) | omega) _).set_ne (a := ⟨w1.heap.size, 9, none⟩) (by first | (simp; done) | (simp; omega) | omega) _)
        replace HS : Has W3 (w1.heap.size) [.int .u8 0, .bool true, .int .i64 0, .string ⟨#[]⟩, .bool false, .int .u8 (tv : Int), .bool false, .int .i64 iv, .string xv, .bool bv, .bool false] 92 := by rw [hW3]; exact (((((HS.set 5 (.int .u8 (tv : Int))).set 6 (.bool false)).set 7 (.int .i64 iv)).set 8 (.string xv)).set 9 (.bool bv))
        have hbW3 : Below w.heap.size w W3 := by rw [hW3]; exact (((((hbW2.setCell (p := ⟨w1.heap.size, 5, none⟩) (by first | exact Nat.le_refl _ | (simp; omega) | omega) _).setCell (p := ⟨w1.heap.size, 6, none⟩) (by first | exact Nat.le_refl _ | (simp; omega) | omega) _).setCell (p := ⟨w1.heap.size, 7, none⟩) (by first | exact Nat.le_refl _ | (simp; omega) | omega) _).setCell (p := ⟨w1.heap.size, 8, none⟩) (by first | exact Nat.le_refl _ | (simp; omega) | omega) _).setCell (p := ⟨w1.heap.size, 9, none⟩) (by first | exact Nat.le_refl _ | (simp; omega) | omega) _)
        have hzW3 : W3.heap.size = W2.heap.size := by rw [hW3]; simp
        replace hW3 := Lib.hid hW3
        obtain ⟨W4, hW4⟩ : ∃ W4, W4 = W3.setCell ⟨w1.heap.size, 10, none⟩ (.bool true) := ⟨_, rfl⟩
        replace HE : Has W4 (b) [.int .u8 (op : Int), pl, pr, .string cc, .int .u8 (tv : Int), .bool false, .int .i64 iv, .string xv, .bool bv] 46 := by rw [hW4]; exact (HE.set_ne (a := ⟨w1.heap.size, 10, none⟩) (by first | (simp; done) | (simp; omega) | omega) _)
        replace HR : Has W4 (w.heap.size) [.int .u8 0, .bool false, .int .i64 0, .string ⟨#[]⟩, .bool false, .int .u8 0, .bool false, .int .i64 0, .string ⟨#[]⟩, .bool false, .bool false] 92 := by rw [hW4]; exact (HR.set_ne (a := ⟨w1.heap.size, 10, none⟩) (by first | (simp; done) | (simp; omega) | omega) _)
        replace HS : Has W4 (w1.heap.size) [.int .u8 0, .bool true, .int .i64 0, .string ⟨#[]⟩, .bool false, .int .u8 (tv : Int), .bool false, .int .i64 iv, .string xv, .bool bv, .bool true] 92 := by rw [hW4]; exact (HS.set 10 (.bool true))
        have hbW4 : Below w.heap.size w W4 := by rw [hW4]; exact (hbW3.setCell (p := ⟨w1.heap.size, 10, none⟩) (by first | exact Nat.le_refl _ | (simp; omega) | omega) _)
        have hzW4 : W4.heap.size = W3.heap.size := by rw [hW4]; simp
        replace hW4 := Lib.hid hW4
        obtain ⟨W5, hW5⟩ : ∃ W5, W5 = ((((((((((W4.setCell ⟨w.heap.size, 0, none⟩ (.int .u8 0)).setCell ⟨w.heap.size, 1, none⟩ (.bool true)).setCell ⟨w.heap.size, 2, none⟩ (.int .i64 0)).setCell ⟨w.heap.size, 3, none⟩ (.string ⟨#[]⟩)).setCell ⟨w.heap.size, 4, none⟩ (.bool false)).setCell ⟨w.heap.size, 5, none⟩ (.int .u8 (tv : Int))).setCell ⟨w.heap.size, 6, none⟩ (.bool false)).setCell ⟨w.heap.size, 7, none⟩ (.int .i64 iv)).setCell ⟨w.heap.size, 8, none⟩ (.string xv)).setCell ⟨w.heap.size, 9, none⟩ (.bool bv)).setCell ⟨w.heap.size, 10, none⟩ (.bool true) := ⟨_, rfl⟩
        replace HE : Has W5 (b) [.int .u8 (op : Int), pl, pr, .string cc, .int .u8 (tv : Int), .bool false, .int .i64 iv, .string xv, .bool bv] 46 := by rw [hW5]; exact (((((((((((HE.set_ne (a := ⟨w.heap.size, 0, none⟩) (by first | (simp; done) | (simp; omega) | omega) _).set_ne (a := ⟨w.heap.size, 1, none⟩) (by first | (simp; done) | (simp; omega) | omega) _).set_ne (a := ⟨w.heap.size, 2, none⟩) (by first | (simp; done) | (simp; omega) | omega) _).set_ne (a := ⟨w.heap.size, 3, none⟩) (by first | (simp; done) | (simp; omega) | omega) _).set_ne (a := ⟨w.heap.size, 4, none⟩) (by first | (simp; done) | (simp; omega) | omega) _).set_ne (a := ⟨w.heap.size, 5, none⟩) (by first | (simp; done) | (simp; omega) | omega) _).set_ne (a := ⟨w.heap.size, 6, none⟩) (by first | (simp; done) | (simp; omega) | omega) _).set_ne (a := ⟨w.heap.size, 7, none⟩) (by first | (simp; done) | (simp; omega) | omega) _).set_ne (a := ⟨w.heap.size, 8, none⟩) (by first | (simp; done) | (simp; omega) | omega) _).set_ne (a := ⟨w.heap.size, 9, none⟩) (by first | (simp; done) | (simp; omega) | omega) _).set_ne (a := ⟨w.heap.size, 10, none⟩) (by first | (simp; done) | (simp; omega) | omega) _)
        replace HS : Has W5 (w1.heap.size) [.int .u8 0, .bool true, .int .i64 0, .string ⟨#[]⟩, .bool false, .int .u8 (tv : Int), .bool false, .int .i64 iv, .string xv, .bool bv, .bool true] 92 := by rw [hW5]; exact (((((((((((HS.set_ne (a := ⟨w.heap.size, 0, none⟩) (by first | (simp; done) | (simp; omega) | omega) _).set_ne (a := ⟨w.heap.size, 1, none⟩) (by first | (simp; done) | (simp; omega) | omega) _).set_ne (a := ⟨w.heap.size, 2, none⟩) (by first | (simp; done) | (simp; omega) | omega) _).set_ne (a := ⟨w.heap.size, 3, none⟩) (by first | (simp; done) | (simp; omega) | omega) _).set_ne (a := ⟨w.heap.size, 4, none⟩) (by first | (simp; done) | (simp; omega) | omega) _).set_ne (a := ⟨w.heap.size, 5, none⟩) (by first | (simp; done) | (simp; omega) | omega) _).set_ne (a := ⟨w.heap.size, 6, none⟩) (by first | (simp; done) | (simp; omega) | omega) _).set_ne (a := ⟨w.heap.size, 7, none⟩) (by first | (simp; done) | (simp; omega) | omega) _).set_ne (a := ⟨w.heap.size, 8, none⟩) (by first | (simp; done) | (simp; omega) | omega) _).set_ne (a := ⟨w.heap.size, 9, none⟩) (by first | (simp; done) | (simp; omega) | omega) _).set_ne (a := ⟨w.heap.size, 10, none⟩) (by first | (simp; done) | (simp; omega) | omega) _)
        replace HR : Has W5 (w.heap.size) [.int .u8 0, .bool true, .int .i64 0, .string ⟨#[]⟩, .bool false, .int .u8 (tv : Int), .bool false, .int .i64 iv, .string xv, .bool bv, .bool true] 92 := by rw [hW5]; exact (((((((((((HR.set 0 (.int .u8 0)).set 1 (.bool true)).set 2 (.int .i64 0)).set 3 (.string ⟨#[]⟩)).set 4 (.bool false)).set 5 (.int .u8 (tv : Int))).set 6 (.bool false)).set 7 (.int .i64 iv)).set 8 (.string xv)).set 9 (.bool bv)).set 10 (.bool true))
        have hbW5 : Below w.heap.size w W5 := by rw [hW5]; exact (((((((((((hbW4.setCell (p := ⟨w.heap.size, 0, none⟩) (by first | exact Nat.le_refl _ | (simp; omega) | omega) _).setCell (p := ⟨w.heap.size, 1, none⟩) (by first | exact Nat.le_refl _ | (simp; omega) | omega) _).setCell (p := ⟨w.heap.size, 2, none⟩) (by first | exact Nat.le_refl _ | (simp; omega) | omega) _).setCell (p := ⟨w.heap.size, 3, none⟩) (by first | exact Nat.le_refl _ | (simp; omega) | omega) _).setCell (p := ⟨w.heap.size, 4, none⟩) (by first | exact Nat.le_refl _ | (simp; omega) | omega) _).setCell (p := ⟨w.heap.size, 5, none⟩) (by first | exact Nat.le_refl _ | (simp; omega) | omega) _).setCell (p := ⟨w.heap.size, 6, none⟩) (by first | exact Nat.le_refl _ | (simp; omega) | omega) _).setCell (p := ⟨w.heap.size, 7, none⟩) (by first | exact Nat.le_refl _ | (simp; omega) | omega) _).setCell (p := ⟨w.heap.size, 8, none⟩) (by first | exact Nat.le_refl _ | (simp; omega) | omega) _).setCell (p := ⟨w.heap.size, 9, none⟩) (by first | exact Nat.le_refl _ | (simp; omega) | omega) _).setCell (p := ⟨w.heap.size, 10, none⟩) (by first | exact Nat.le_refl _ | (simp; omega) | omega) _)
        have hzW5 : W5.heap.size = W4.heap.size := by rw [hW5]; simp
        replace hW5 := Lib.hid hW5
        have hf : post (.returned (.agg #[.int .u8 0, .bool true, .int .i64 0, .string ⟨#[]⟩, .bool false, .int .u8 (tv : Int), .bool false, .int .i64 iv, .string xv, .bool bv, .bool true])) W5 := by
          rw [← hpost.out, hres.out]
          simp only [ne_eq, not_true_eq_false, not_false_eq_true, false_or, true_or, or_true, or_false, if_true, if_false, Bool.false_eq_true, hcc.out, h4.out, h7.out]
          exact ⟨rfl, hbW5⟩
        replace hf := Lib.hid hf
        have r0 := Lib.hid (HR.cell (o := 0) rfl)
        have r1 := Lib.hid (HR.cell (o := 1) rfl)
        have r2 := Lib.hid (HR.cell (o := 2) rfl)
        have r3 := Lib.hid (HR.cell (o := 3) rfl)
        have r4 := Lib.hid (HR.cell (o := 4) rfl)
        have r5 := Lib.hid (HR.cell (o := 5) rfl)
        have r6 := Lib.hid (HR.cell (o := 6) rfl)
        have r7 := Lib.hid (HR.cell (o := 7) rfl)
        have r8 := Lib.hid (HR.cell (o := 8) rfl)
        have r9 := Lib.hid (HR.cell (o := 9) rfl)
        have r10 := Lib.hid (HR.cell (o := 10) rfl)
        replace hzW1 := Lib.hid hzW1
        replace hzW2 := Lib.hid hzW2
        replace hzW3 := Lib.hid hzW3
        replace hzW4 := Lib.hid hzW4
        replace hzW5 := Lib.hid hzW5
        go_wp2_with fail
        rw [show ((((W2.setCell ⟨w1.heap.size, 5, none⟩ (.int .u8 (tv : Int))).setCell ⟨w1.heap.size, 6, none⟩ (.bool false)).setCell ⟨w1.heap.size, 7, none⟩ (.int .i64 iv)).setCell ⟨w1.heap.size, 8, none⟩ (.string xv)).setCell ⟨w1.heap.size, 9, none⟩ (.bool bv) = W3 from hW3.out.symm]
        rw [show W3.setCell ⟨w1.heap.size, 10, none⟩ (.bool true) = W4 from hW4.out.symm]
        rw [show ((((((((((W4.setCell ⟨w.heap.size, 0, none⟩ (.int .u8 0)).setCell ⟨w.heap.size, 1, none⟩ (.bool true)).setCell ⟨w.heap.size, 2, none⟩ (.int .i64 0)).setCell ⟨w.heap.size, 3, none⟩ (.string ⟨#[]⟩)).setCell ⟨w.heap.size, 4, none⟩ (.bool false)).setCell ⟨w.heap.size, 5, none⟩ (.int .u8 (tv : Int))).setCell ⟨w.heap.size, 6, none⟩ (.bool false)).setCell ⟨w.heap.size, 7, none⟩ (.int .i64 iv)).setCell ⟨w.heap.size, 8, none⟩ (.string xv)).setCell ⟨w.heap.size, 9, none⟩ (.bool bv)).setCell ⟨w.heap.size, 10, none⟩ (.bool true) = W5 from hW5.out.symm]
        exact bodyPost_ret (v := .agg #[.int .u8 0, .bool true, .int .i64 0, .string ⟨#[]⟩, .bool false, .int .u8 (tv : Int), .bool false, .int .i64 iv, .string xv, .bool bv, .bool true]) (by simp [results, Tryz.results54, go_sem, r0.out, r1.out, r2.out, r3.out, r4.out, r5.out, r6.out, r7.out, r8.out, r9.out, r10.out]) rfl hf.out
      by_cases h6 : op = 6
      · have hd4 : ((op : Int) == 4) = false := by simp; omega
        have hd7 : ((op : Int) == 7) = false := by simp; omega
        have hd6 : ((op : Int) == 6) = true := by simp; omega
        replace h4 := Lib.hid h4
        replace h7 := Lib.hid h7
        replace h6 := Lib.hid h6
        have cE0 := HE.cell (o := 0) rfl
        have cE1 := HE.cell (o := 1) rfl
        have cE2 := HE.cell (o := 2) rfl
        have cE3 := HE.cell (o := 3) rfl
        have cE4 := HE.cell (o := 4) rfl
        have cE5 := HE.cell (o := 5) rfl
        have cE6 := HE.cell (o := 6) rfl
        have cE7 := HE.cell (o := 7) rfl
        have cE8 := HE.cell (o := 8) rfl
        have cR0 := HR.cell (o := 0) rfl
        have cR1 := HR.cell (o := 1) rfl
        have cR2 := HR.cell (o := 2) rfl
        have cR3 := HR.cell (o := 3) rfl
        have cR4 := HR.cell (o := 4) rfl
        have cR5 := HR.cell (o := 5) rfl
        have cR6 := HR.cell (o := 6) rfl
        have cR7 := HR.cell (o := 7) rfl
        have cR8 := HR.cell (o := 8) rfl
        have cR9 := HR.cell (o := 9) rfl
        have cR10 := HR.cell (o := 10) rfl
        have cS0 := HS.cell (o := 0) rfl
        have cS1 := HS.cell (o := 1) rfl
        have cS2 := HS.cell (o := 2) rfl
        have cS3 := HS.cell (o := 3) rfl
        have cS4 := HS.cell (o := 4) rfl
        have cS5 := HS.cell (o := 5) rfl
        have cS6 := HS.cell (o := 6) rfl
        have cS7 := HS.cell (o := 7) rfl
        have cS8 := HS.cell (o := 8) rfl
        have cS9 := HS.cell (o := 9) rfl
        have cS10 := HS.cell (o := 10) rfl
        have fR0 := HR.free 0
        have fR1 := HR.free 1
        have fR2 := HR.free 2
        have fR3 := HR.free 3
        have fR4 := HR.free 4
        have fR5 := HR.free 5
        have fR6 := HR.free 6
        have fR7 := HR.free 7
        have fR8 := HR.free 8
        have fR9 := HR.free 9
        have fR10 := HR.free 10
        have fS0 := HS.free 0
        have fS1 := HS.free 1
        have fS2 := HS.free 2
        have fS3 := HS.free 3
        have fS4 := HS.free 4
        have fS5 := HS.free 5
        have fS6 := HS.free 6
        have fS7 := HS.free 7
        have fS8 := HS.free 8
        have fS9 := HS.free 9
        have fS10 := HS.free 10
        obtain ⟨W3, hW3⟩ : ∃ W3, W3 = ((((W2.setCell ⟨w1.heap.size, 5, none⟩ (.int .u8 (tv : Int))).setCell ⟨w1.heap.size, 6, none⟩ (.bool false)).setCell ⟨w1.heap.size, 7, none⟩ (.int .i64 iv)).setCell ⟨w1.heap.size, 8, none⟩ (.string xv)).setCell ⟨w1.heap.size, 9, none⟩ (.bool bv) := ⟨_, rfl⟩
        replace HE : Has W3 (b) [.int .u8 (op : Int), pl, pr, .string cc, .int .u8 (tv : Int), .bool false, .int .i64 iv, .string xv, .bool bv] 46 := by rw [hW3]; exact (((((HE.set_ne (a := ⟨w1.heap.size, 5, none⟩) (by first | (simp; done) | (simp; omega) | omega) _).set_ne (a := ⟨w1.heap.size, 6, none⟩) (by first | (simp; done) | (simp; omega) | omega) _).set_ne (a := ⟨w1.heap.size, 7, none⟩) (by first | (simp; done) | (simp; omega) | omega) _).set_ne (a := ⟨w1.heap.size, 8, none⟩) (by first | (simp; done) | (simp; omega) | omega) _).set_ne (a := ⟨w1.heap.size, 9, none⟩) (by first | (simp; done) | (simp; omega) | omega) _)
        replace HR : Has W3 (w.heap.size) [.int .u8 0, .bool false, .int .i64 0, .string ⟨#[]⟩, .bool false, .int .u8 0, .bool false, .int .i64 0, .string ⟨#[]⟩, .bool false, .bool false] 92 := by rw [hW3]; exact (((((HR.set_ne (a := ⟨w1.heap.size, 5, none⟩) (by first | (simp; done) | (simp; omega) | omega) _).set_ne (a := ⟨w1.heap.size, 6, none⟩) (by first | (simp; done) | (simp; omega) | omega) _).set_ne (a := ⟨w1.heap.size, 7, none⟩) (by first | (simp; done) | (simp; omega) | omega) _).set_ne (a := ⟨w1.heap.size, 8, none⟩) (by first | (simp; done) | (simp; omega) | omega) _).set_ne (a := ⟨w1.heap.size, 9, none⟩) (by first | (simp; done) | (simp; omega) | omega) _)
        replace HS : Has W3 (w1.heap.size) [.int .u8 0, .bool true, .int .i64 0, .string ⟨#[]⟩, .bool false, .int .u8 (tv : Int), .bool false, .int .i64 iv, .string xv, .bool bv, .bool false] 92 := by rw [hW3]; exact (((((HS.set 5 (.int .u8 (tv : Int))).set 6 (.bool false)).set 7 (.int .i64 iv)).set 8 (.string xv)).set 9 (.bool bv))
        have hbW3 : Below w.heap.size w W3 := by rw [hW3]; exact (((((hbW2.setCell (p := ⟨w1.heap.size, 5, none⟩) (by first | exact Nat.le_refl _ | (simp; omega) | omega) _).setCell (p := ⟨w1.heap.size, 6, none⟩) (by first | exact Nat.le_refl _ | (simp; omega) | omega) _).setCell (p := ⟨w1.heap.size, 7, none⟩) (by first | exact Nat.le_refl _ | (simp; omega) | omega) _).setCell (p := ⟨w1.heap.size, 8, none⟩) (by first | exact Nat.le_refl _ | (simp; omega) | omega) _).setCell (p := ⟨w1.heap.size, 9, none⟩) (by first | exact Nat.le_refl _ | (simp; omega) | omega) _)
        have hzW3 : W3.heap.size = W2.heap.size := by rw [hW3]; simp
        replace hW3 := Lib.hid hW3
        obtain ⟨W4, hW4⟩ : ∃ W4, W4 = W3.setCell ⟨w1.heap.size, 10, none⟩ (.bool false) := ⟨_, rfl⟩
        replace HE : Has W4 (b) [.int .u8 (op : Int), pl, pr, .string cc, .int .u8 (tv : Int), .bool false, .int .i64 iv, .string xv, .bool bv] 46 := by rw [hW4]; exact (HE.set_ne (a := ⟨w1.heap.size, 10, none⟩) (by first | (simp; done) | (simp; omega) | omega) _)
        replace HR : Has W4 (w.heap.size) [.int .u8 0, .bool false, .int .i64 0, .string ⟨#[]⟩, .bool false, .int .u8 0, .bool false, .int .i64 0, .string ⟨#[]⟩, .bool false, .bool false] 92 := by rw [hW4]; exact (HR.set_ne (a := ⟨w1.heap.size, 10, none⟩) (by first | (simp; done) | (simp; omega) | omega) _)
        replace HS : Has W4 (w1.heap.size) [.int .u8 0, .bool true, .int .i64 0, .string ⟨#[]⟩, .bool false, .int .u8 (tv : Int), .bool false, .int .i64 iv, .string xv, .bool bv, .bool false] 92 := by rw [hW4]; exact (HS.set 10 (.bool false))
        have hbW4 : Below w.heap.size w W4 := by rw [hW4]; exact (hbW3.setCell (p := ⟨w1.heap.size, 10, none⟩) (by first | exact Nat.le_refl _ | (simp; omega) | omega) _)
        have hzW4 : W4.heap.size = W3.heap.size := by rw [hW4]; simp
        replace hW4 := Lib.hid hW4
        obtain ⟨W5, hW5⟩ : ∃ W5, W5 = ((((((((((W4.setCell ⟨w.heap.size, 0, none⟩ (.int .u8 0)).setCell ⟨w.heap.size, 1, none⟩ (.bool true)).setCell ⟨w.heap.size, 2, none⟩ (.int .i64 0)).setCell ⟨w.heap.size, 3, none⟩ (.string ⟨#[]⟩)).setCell ⟨w.heap.size, 4, none⟩ (.bool false)).setCell ⟨w.heap.size, 5, none⟩ (.int .u8 (tv : Int))).setCell ⟨w.heap.size, 6, none⟩ (.bool false)).setCell ⟨w.heap.size, 7, none⟩ (.int .i64 iv)).setCell ⟨w.heap.size, 8, none⟩ (.string xv)).setCell ⟨w.heap.size, 9, none⟩ (.bool bv)).setCell ⟨w.heap.size, 10, none⟩ (.bool false) := ⟨_, rfl⟩
        replace HE : Has W5 (b) [.int .u8 (op : Int), pl, pr, .string cc, .int .u8 (tv : Int), .bool false, .int .i64 iv, .string xv, .bool bv] 46 := by rw [hW5]; exact (((((((((((HE.set_ne (a := ⟨w.heap.size, 0, none⟩) (by first | (simp; done) | (simp; omega) | omega) _).set_ne (a := ⟨w.heap.size, 1, none⟩) (by first | (simp; done) | (simp; omega) | omega) _).set_ne (a := ⟨w.heap.size, 2, none⟩) (by first | (simp; done) | (simp; omega) | omega) _).set_ne (a := ⟨w.heap.size, 3, none⟩) (by first | (simp; done) | (simp; omega) | omega) _).set_ne (a := ⟨w.heap.size, 4, none⟩) (by first | (simp; done) | (simp; omega) | omega) _).set_ne (a := ⟨w.heap.size, 5, none⟩) (by first | (simp; done) | (simp; omega) | omega) _).set_ne (a := ⟨w.heap.size, 6, none⟩) (by first | (simp; done) | (simp; omega) | omega) _).set_ne (a := ⟨w.heap.size, 7, none⟩) (by first | (simp; done) | (simp; omega) | omega) _).set_ne (a := ⟨w.heap.size, 8, none⟩) (by first | (simp; done) | (simp; omega) | omega) _).set_ne (a := ⟨w.heap.size, 9, none⟩) (by first | (simp; done) | (simp; omega) | omega) _).set_ne (a := ⟨w.heap.size, 10, none⟩) (by first | (simp; done) | (simp; omega) | omega) _)
        replace HS : Has W5 (w1.heap.size) [.int .u8 0, .bool true, .int .i64 0, .string ⟨#[]⟩, .bool false, .int .u8 (tv : Int), .bool false, .int .i64 iv, .string xv, .bool bv, .bool false] 92 := by rw [hW5]; exact (((((((((((HS.set_ne (a := ⟨w.heap.size, 0, none⟩) (by first | (simp; done) | (simp; omega) | omega) _).set_ne (a := ⟨w.heap.size, 1, none⟩) (by first | (simp; done) | (simp; omega) | omega) _).set_ne (a := ⟨w.heap.size, 2, none⟩) (by first | (simp; done) | (simp; omega) | omega) _).set_ne (a := ⟨w.heap.size, 3, none⟩) (by first | (simp; done) | (simp; omega) | omega) _).set_ne (a := ⟨w.heap.size, 4, none⟩) (by first | (simp; done) | (simp; omega) | omega) _).set_ne (a := ⟨w.heap.size, 5, none⟩) (by first | (simp; done) | (simp; omega) | omega) _).set_ne (a := ⟨w.heap.size, 6, none⟩) (by first | (simp; done) | (simp; omega) | omega) _).set_ne (a := ⟨w.heap.size, 7, none⟩) (by first | (simp; done) | (simp; omega) | omega) _).set_ne (a := ⟨w.heap.size, 8, none⟩) (by first | (simp; done) | (simp; omega) | omega) _).set_ne (a := ⟨w.heap.size, 9, none⟩) (by first | (simp; done) | (simp; omega) | omega) _).set_ne (a := ⟨w.heap.size, 10, none⟩) (by first | (simp; done) | (simp; omega) | omega) _)
        replace HR : Has W5 (w.heap.size) [.int .u8 0, .bool true, .int .i64 0, .string ⟨#[]⟩, .bool false, .int .u8 (tv : Int), .bool false, .int .i64 iv, .string xv, .bool bv, .bool false] 92 := by rw [hW5]; exact (((((((((((HR.set 0 (.int .u8 0)).set 1 (.bool true)).set 2 (.int .i64 0)).set 3 (.string ⟨#[]⟩)).set 4 (.bool false)).set 5 (.int .u8 (tv : Int))).set 6 (.bool false)).set 7 (.int .i64 iv)).set 8 (.string xv)).set 9 (.bool bv)).set 10 (.bool false))
        have hbW5 : Below w.heap.size w W5 := by rw [hW5]; exact (((((((((((hbW4.setCell (p := ⟨w.heap.size, 0, none⟩) (by first | exact Nat.le_refl _ | (simp; omega) | omega) _).setCell (p := ⟨w.heap.size, 1, none⟩) (by first | exact Nat.le_refl _ | (simp; omega) | omega) _).setCell (p := ⟨w.heap.size, 2, none⟩) (by first | exact Nat.le_refl _ | (simp; omega) | omega) _).setCell (p := ⟨w.heap.size, 3, none⟩) (by first | exact Nat.le_refl _ | (simp; omega) | omega) _).setCell (p := ⟨w.heap.size, 4, none⟩) (by first | exact Nat.le_refl _ | (simp; omega) | omega) _).setCell (p := ⟨w.heap.size, 5, none⟩) (by first | exact Nat.le_refl _ | (simp; omega) | omega) _).setCell (p := ⟨w.heap.size, 6, none⟩) (by first | exact Nat.le_refl _ | (simp; omega) | omega) _).setCell (p := ⟨w.heap.size, 7, none⟩) (by first | exact Nat.le_refl _ | (simp; omega) | omega) _).setCell (p := ⟨w.heap.size, 8, none⟩) (by first | exact Nat.le_refl _ | (simp; omega) | omega) _).setCell (p := ⟨w.heap.size, 9, none⟩) (by first | exact Nat.le_refl _ | (simp; omega) | omega) _).setCell (p := ⟨w.heap.size, 10, none⟩) (by first | exact Nat.le_refl _ | (simp; omega) | omega) _)
        have hzW5 : W5.heap.size = W4.heap.size := by rw [hW5]; simp
        replace hW5 := Lib.hid hW5
        have hf : post (.returned (.agg #[.int .u8 0, .bool true, .int .i64 0, .string ⟨#[]⟩, .bool false, .int .u8 (tv : Int), .bool false, .int .i64 iv, .string xv, .bool bv, .bool false])) W5 := by
          rw [← hpost.out, hres.out]
          simp only [ne_eq, not_true_eq_false, not_false_eq_true, false_or, true_or, or_true, or_false, if_true, if_false, Bool.false_eq_true, hcc.out, h4.out, h7.out, h6.out]
          exact ⟨rfl, hbW5⟩
        replace hf := Lib.hid hf
        have r0 := Lib.hid (HR.cell (o := 0) rfl)
        have r1 := Lib.hid (HR.cell (o := 1) rfl)
        have r2 := Lib.hid (HR.cell (o := 2) rfl)
        have r3 := Lib.hid (HR.cell (o := 3) rfl)
        have r4 := Lib.hid (HR.cell (o := 4) rfl)
        have r5 := Lib.hid (HR.cell (o := 5) rfl)
        have r6 := Lib.hid (HR.cell (o := 6) rfl)
        have r7 := Lib.hid (HR.cell (o := 7) rfl)
        have r8 := Lib.hid (HR.cell (o := 8) rfl)
        have r9 := Lib.hid (HR.cell (o := 9) rfl)
        have r10 := Lib.hid (HR.cell (o := 10) rfl)
        replace hzW1 := Lib.hid hzW1
        replace hzW2 := Lib.hid hzW2
        replace hzW3 := Lib.hid hzW3
        replace hzW4 := Lib.hid hzW4
        replace hzW5 := Lib.hid hzW5
        go_wp2_with fail
        rw [show ((((W2.setCell ⟨w1.heap.size, 5, none⟩ (.int .u8 (tv : Int))).setCell ⟨w1.heap.size, 6, none⟩ (.bool false)).setCell ⟨w1.heap.size, 7, none⟩ (.int .i64 iv)).setCell ⟨w1.heap.size, 8, none⟩ (.string xv)).setCell ⟨w1.heap.size, 9, none⟩ (.bool bv) = W3 from hW3.out.symm]
        rw [show W3.setCell ⟨w1.heap.size, 10, none⟩ (.bool false) = W4 from hW4.out.symm]
        rw [show ((((((((((W4.setCell ⟨w.heap.size, 0, none⟩ (.int .u8 0)).setCell ⟨w.heap.size, 1, none⟩ (.bool true)).setCell ⟨w.heap.size, 2, none⟩ (.int .i64 0)).setCell ⟨w.heap.size, 3, none⟩ (.string ⟨#[]⟩)).setCell ⟨w.heap.size, 4, none⟩ (.bool false)).setCell ⟨w.heap.size, 5, none⟩ (.int .u8 (tv : Int))).setCell ⟨w.heap.size, 6, none⟩ (.bool false)).setCell ⟨w.heap.size, 7, none⟩ (.int .i64 iv)).setCell ⟨w.heap.size, 8, none⟩ (.string xv)).setCell ⟨w.heap.size, 9, none⟩ (.bool bv)).setCell ⟨w.heap.size, 10, none⟩ (.bool false) = W5 from hW5.out.symm]
        exact bodyPost_ret (v := .agg #[.int .u8 0, .bool true, .int .i64 0, .string ⟨#[]⟩, .bool false, .int .u8 (tv : Int), .bool false, .int .i64 iv, .string xv, .bool bv, .bool false]) (by simp [results, Tryz.results54, go_sem, r0.out, r1.out, r2.out, r3.out, r4.out, r5.out, r6.out, r7.out, r8.out, r9.out, r10.out]) rfl hf.out
      by_cases h9 : op = 9
      · have hd4 : ((op : Int) == 4) = false := by simp; omega
        have hd7 : ((op : Int) == 7) = false := by simp; omega
        have hd6 : ((op : Int) == 6) = false := by simp; omega
        have hd9 : ((op : Int) == 9) = true := by simp; omega
        replace h4 := Lib.hid h4
        replace h7 := Lib.hid h7
        replace h6 := Lib.hid h6
        replace h9 := Lib.hid h9
        have cE0 := HE.cell (o := 0) rfl
        have cE1 := HE.cell (o := 1) rfl
        have cE2 := HE.cell (o := 2) rfl
        have cE3 := HE.cell (o := 3) rfl
        have cE4 := HE.cell (o := 4) rfl
        have cE5 := HE.cell (o := 5) rfl
        have cE6 := HE.cell (o := 6) rfl
        have cE7 := HE.cell (o := 7) rfl
        have cE8 := HE.cell (o := 8) rfl
        have cR0 := HR.cell (o := 0) rfl
        have cR1 := HR.cell (o := 1) rfl
        have cR2 := HR.cell (o := 2) rfl
        have cR3 := HR.cell (o := 3) rfl
        have cR4 := HR.cell (o := 4) rfl
        have cR5 := HR.cell (o := 5) rfl
        have cR6 := HR.cell (o := 6) rfl
        have cR7 := HR.cell (o := 7) rfl
        have cR8 := HR.cell (o := 8) rfl
        have cR9 := HR.cell (o := 9) rfl
        have cR10 := HR.cell (o := 10) rfl
        have cS0 := HS.cell (o := 0) rfl
        have cS1 := HS.cell (o := 1) rfl
        have cS2 := HS.cell (o := 2) rfl
        have cS3 := HS.cell (o := 3) rfl
        have cS4 := HS.cell (o := 4) rfl
        have cS5 := HS.cell (o := 5) rfl
        have cS6 := HS.cell (o := 6) rfl
        have cS7 := HS.cell (o := 7) rfl
        have cS8 := HS.cell (o := 8) rfl
        have cS9 := HS.cell (o := 9) rfl
        have cS10 := HS.cell (o := 10) rfl
        have fR0 := HR.free 0
        have fR1 := HR.free 1
        have fR2 := HR.free 2
        have fR3 := HR.free 3
        have fR4 := HR.free 4
        have fR5 := HR.free 5
        have fR6 := HR.free 6
        have fR7 := HR.free 7
        have fR8 := HR.free 8
        have fR9 := HR.free 9
        have fR10 := HR.free 10
        have fS0 := HS.free 0
        have fS1 := HS.free 1
        have fS2 := HS.free 2
        have fS3 := HS.free 3
        have fS4 := HS.free 4
        have fS5 := HS.free 5
        have fS6 := HS.free 6
        have fS7 := HS.free 7
        have fS8 := HS.free 8
        have fS9 := HS.free 9
        have fS10 := HS.free 10
        obtain ⟨W3, hW3⟩ : ∃ W3, W3 = ((((W2.setCell ⟨w1.heap.size, 0, none⟩ (.int .u8 (tv : Int))).setCell ⟨w1.heap.size, 1, none⟩ (.bool false)).setCell ⟨w1.heap.size, 2, none⟩ (.int .i64 iv)).setCell ⟨w1.heap.size, 3, none⟩ (.string xv)).setCell ⟨w1.heap.size, 4, none⟩ (.bool bv) := ⟨_, rfl⟩
        replace HE : Has W3 (b) [.int .u8 (op : Int), pl, pr, .string cc, .int .u8 (tv : Int), .bool false, .int .i64 iv, .string xv, .bool bv] 46 := by rw [hW3]; exact (((((HE.set_ne (a := ⟨w1.heap.size, 0, none⟩) (by first | (simp; done) | (simp; omega) | omega) _).set_ne (a := ⟨w1.heap.size, 1, none⟩) (by first | (simp; done) | (simp; omega) | omega) _).set_ne (a := ⟨w1.heap.size, 2, none⟩) (by first | (simp; done) | (simp; omega) | omega) _).set_ne (a := ⟨w1.heap.size, 3, none⟩) (by first | (simp; done) | (simp; omega) | omega) _).set_ne (a := ⟨w1.heap.size, 4, none⟩) (by first | (simp; done) | (simp; omega) | omega) _)
        replace HR : Has W3 (w.heap.size) [.int .u8 0, .bool false, .int .i64 0, .string ⟨#[]⟩, .bool false, .int .u8 0, .bool false, .int .i64 0, .string ⟨#[]⟩, .bool false, .bool false] 92 := by rw [hW3]; exact (((((HR.set_ne (a := ⟨w1.heap.size, 0, none⟩) (by first | (simp; done) | (simp; omega) | omega) _).set_ne (a := ⟨w1.heap.size, 1, none⟩) (by first | (simp; done) | (simp; omega) | omega) _).set_ne (a := ⟨w1.heap.size, 2, none⟩) (by first | (simp; done) | (simp; omega) | omega) _).set_ne (a := ⟨w1.heap.size, 3, none⟩) (by first | (simp; done) | (simp; omega) | omega) _).set_ne (a := ⟨w1.heap.size, 4, none⟩) (by first | (simp; done) | (simp; omega) | omega) _)
        replace HS : Has W3 (w1.heap.size) [.int .u8 (tv : Int), .bool false, .int .i64 iv, .string xv, .bool bv, .int .u8 0, .bool true, .int .i64 0, .string ⟨#[]⟩, .bool false, .bool false] 92 := by rw [hW3]; exact (((((HS.set 0 (.int .u8 (tv : Int))).set 1 (.bool false)).set 2 (.int .i64 iv)).set 3 (.string xv)).set 4 (.bool bv))
        have hbW3 : Below w.heap.size w W3 := by rw [hW3]; exact (((((hbW2.setCell (p := ⟨w1.heap.size, 0, none⟩) (by first | exact Nat.le_refl _ | (simp; omega) | omega) _).setCell (p := ⟨w1.heap.size, 1, none⟩) (by first | exact Nat.le_refl _ | (simp; omega) | omega) _).setCell (p := ⟨w1.heap.size, 2, none⟩) (by first | exact Nat.le_refl _ | (simp; omega) | omega) _).setCell (p := ⟨w1.heap.size, 3, none⟩) (by first | exact Nat.le_refl _ | (simp; omega) | omega) _).setCell (p := ⟨w1.heap.size, 4, none⟩) (by first | exact Nat.le_refl _ | (simp; omega) | omega) _)
        have hzW3 : W3.heap.size = W2.heap.size := by rw [hW3]; simp
        replace hW3 := Lib.hid hW3
        obtain ⟨W4, hW4⟩ : ∃ W4, W4 = W3.setCell ⟨w1.heap.size, 10, none⟩ (.bool true) := ⟨_, rfl⟩
        replace HE : Has W4 (b) [.int .u8 (op : Int), pl, pr, .string cc, .int .u8 (tv : Int), .bool false, .int .i64 iv, .string xv, .bool bv] 46 := by rw [hW4]; exact (HE.set_ne (a := ⟨w1.heap.size, 10, none⟩) (by first | (simp; done) | (simp; omega) | omega) _)
        replace HR : Has W4 (w.heap.size) [.int .u8 0, .bool false, .int .i64 0, .string ⟨#[]⟩, .bool false, .int .u8 0, .bool false, .int .i64 0, .string ⟨#[]⟩, .bool false, .bool false] 92 := by rw [hW4]; exact (HR.set_ne (a := ⟨w1.heap.size, 10, none⟩) (by first | (simp; done) | (simp; omega) | omega) _)
        replace HS : Has W4 (w1.heap.size) [.int .u8 (tv : Int), .bool false, .int .i64 iv, .string xv, .bool bv, .int .u8 0, .bool true, .int .i64 0, .string ⟨#[]⟩, .bool false, .bool true] 92 := by rw [hW4]; exact (HS.set 10 (.bool true))
        have hbW4 : Below w.heap.size w W4 := by rw [hW4]; exact (hbW3.setCell (p := ⟨w1.heap.size, 10, none⟩) (by first | exact Nat.le_refl _ | (simp; omega) | omega) _)
        have hzW4 : W4.heap.size = W3.heap.size := by rw [hW4]; simp
        replace hW4 := Lib.hid hW4
        obtain ⟨W5, hW5⟩ : ∃ W5, W5 = ((((((((((W4.setCell ⟨w.heap.size, 0, none⟩ (.int .u8 (tv : Int))).setCell ⟨w.heap.size, 1, none⟩ (.bool false)).setCell ⟨w.heap.size, 2, none⟩ (.int .i64 iv)).setCell ⟨w.heap.size, 3, none⟩ (.string xv)).setCell ⟨w.heap.size, 4, none⟩ (.bool bv)).setCell ⟨w.heap.size, 5, none⟩ (.int .u8 0)).setCell ⟨w.heap.size, 6, none⟩ (.bool true)).setCell ⟨w.heap.size, 7, none⟩ (.int .i64 0)).setCell ⟨w.heap.size, 8, none⟩ (.string ⟨#[]⟩)).setCell ⟨w.heap.size, 9, none⟩ (.bool false)).setCell ⟨w.heap.size, 10, none⟩ (.bool true) := ⟨_, rfl⟩
        replace HE : Has W5 (b) [.int .u8 (op : Int), pl, pr, .string cc, .int .u8 (tv : Int), .bool false, .int .i64 iv, .string xv, .bool bv] 46 := by rw [hW5]; exact (((((((((((HE.set_ne (a := ⟨w.heap.size, 0, none⟩) (by first | (simp; done) | (simp; omega) | omega) _).set_ne (a := ⟨w.heap.size, 1, none⟩) (by first | (simp; done) | (simp; omega) | omega) _).set_ne (a := ⟨w.heap.size, 2, none⟩) (by first | (simp; done) | (simp; omega) | omega) _).set_ne (a := ⟨w.heap.size, 3, none⟩) (by first | (simp; done) | (simp; omega) | omega) _).set_ne (a := ⟨w.heap.size, 4, none⟩) (by first | (simp; done) | (simp; omega) | omega) _).set_ne (a := ⟨w.heap.size, 5, none⟩) (by first | (simp; done) | (simp; omega) | omega) _).set_ne (a := ⟨w.heap.size, 6, none⟩) (by first | (simp; done) | (simp; omega) | omega) _).set_ne (a := ⟨w.heap.size, 7, none⟩) (by first | (simp; done) | (simp; omega) | omega) _).set_ne (a := ⟨w.heap.size, 8, none⟩) (by first | (simp; done) | (simp; omega) | omega) _).set_ne (a := ⟨w.heap.size, 9, none⟩) (by first | (simp; done) | (simp; omega) | omega) _).set_ne (a := ⟨w.heap.size, 10, none⟩) (by first | (simp; done) | (simp; omega) | omega) _)
        replace HS : Has W5 (w1.heap.size) [.int .u8 (tv : Int), .bool false, .int .i64 iv, .string xv, .bool bv, .int .u8 0, .bool true, .int .i64 0, .string ⟨#[]⟩, .bool false, .bool true] 92 := by rw [hW5]; exact (((((((((((HS.set_ne (a := ⟨w.heap.size, 0, none⟩) (by first | (simp; done) | (simp; omega) | omega) _).set_ne (a := ⟨w.heap.size, 1, none⟩) (by first | (simp; done) | (simp; omega) | omega) _).set_ne (a := ⟨w.heap.size, 2, none⟩) (by first | (simp; done) | (simp; omega) | omega) _).set_ne (a := ⟨w.heap.size, 3, none⟩) (by first | (simp; done) | (simp; omega) | omega) _).set_ne (a := ⟨w.heap.size, 4, none⟩) (by first | (simp; done) | (simp; omega) | omega) _).set_ne (a := ⟨w.heap.size, 5, none⟩) (by first | (simp; done) | (simp; omega) | omega) _).set_ne (a := ⟨w.heap.size, 6, none⟩) (by first | (simp; done) | (simp; omega) | omega) _).set_ne (a := ⟨w.heap.size, 7, none⟩) (by first | (simp; done) | (simp; omega) | omega) _).set_ne (a := ⟨w.heap.size, 8, none⟩) (by first | (simp; done) | (simp; omega) | omega) _).set_ne (a := ⟨w.heap.size, 9, none⟩) (by first | (simp; done) | (simp; omega) | omega) _).set_ne (a := ⟨w.heap.size, 10, none⟩) (by first | (simp; done) | (simp; omega) | omega) _)
        replace HR : Has W5 (w.heap.size) [.int .u8 (tv : Int), .bool false, .int .i64 iv, .string xv, .bool bv, .int .u8 0, .bool true, .int .i64 0, .string ⟨#[]⟩, .bool false, .bool true] 92 := by rw [hW5]; exact (((((((((((HR.set 0 (.int .u8 (tv : Int))).set 1 (.bool false)).set 2 (.int .i64 iv)).set 3 (.string xv)).set 4 (.bool bv)).set 5 (.int .u8 0)).set 6 (.bool true)).set 7 (.int .i64 0)).set 8 (.string ⟨#[]⟩)).set 9 (.bool false)).set 10 (.bool true))
        have hbW5 : Below w.heap.size w W5 := by rw [hW5]; exact (((((((((((hbW4.setCell (p := ⟨w.heap.size, 0, none⟩) (by first | exact Nat.le_refl _ | (simp; omega) | omega) _).setCell (p := ⟨w.heap.size, 1, none⟩) (by first | exact Nat.le_refl _ | (simp; omega) | omega) _).setCell (p := ⟨w.heap.size, 2, none⟩) (by first | exact Nat.le_refl _ | (simp; omega) | omega) _).setCell (p := ⟨w.heap.size, 3, none⟩) (by first | exact Nat.le_refl _ | (simp; omega) | omega) _).setCell (p := ⟨w.heap.size, 4, none⟩) (by first | exact Nat.le_refl _ | (simp; omega) | omega) _).setCell (p := ⟨w.heap.size, 5, none⟩) (by first | exact Nat.le_refl _ | (simp; omega) | omega) _).setCell (p := ⟨w.heap.size, 6, none⟩) (by first | exact Nat.le_refl _ | (simp; omega) | omega) _).setCell (p := ⟨w.heap.size, 7, none⟩) (by first | exact Nat.le_refl _ | (simp; omega) | omega) _).setCell (p := ⟨w.heap.size, 8, none⟩) (by first | exact Nat.le_refl _ | (simp; omega) | omega) _).setCell (p := ⟨w.heap.size, 9, none⟩) (by first | exact Nat.le_refl _ | (simp; omega) | omega) _).setCell (p := ⟨w.heap.size, 10, none⟩) (by first | exact Nat.le_refl _ | (simp; omega) | omega) _)
        have hzW5 : W5.heap.size = W4.heap.size := by rw [hW5]; simp
        replace hW5 := Lib.hid hW5
        have hf : post (.returned (.agg #[.int .u8 (tv : Int), .bool false, .int .i64 iv, .string xv, .bool bv, .int .u8 0, .bool true, .int .i64 0, .string ⟨#[]⟩, .bool false, .bool true])) W5 := by
          rw [← hpost.out, hres.out]
          simp only [ne_eq, not_true_eq_false, not_false_eq_true, false_or, true_or, or_true, or_false, if_true, if_false, Bool.false_eq_true, hcc.out, h4.out, h7.out, h6.out, h9.out]
          exact ⟨rfl, hbW5⟩
        replace hf := Lib.hid hf
        have r0 := Lib.hid (HR.cell (o := 0) rfl)
        have r1 := Lib.hid (HR.cell (o := 1) rfl)
        have r2 := Lib.hid (HR.cell (o := 2) rfl)
        have r3 := Lib.hid (HR.cell (o := 3) rfl)
        have r4 := Lib.hid (HR.cell (o := 4) rfl)
        have r5 := Lib.hid (HR.cell (o := 5) rfl)
        have r6 := Lib.hid (HR.cell (o := 6) rfl)
        have r7 := Lib.hid (HR.cell (o := 7) rfl)
        have r8 := Lib.hid (HR.cell (o := 8) rfl)
        have r9 := Lib.hid (HR.cell (o := 9) rfl)
        have r10 := Lib.hid (HR.cell (o := 10) rfl)
        replace hzW1 := Lib.hid hzW1
        replace hzW2 := Lib.hid hzW2
        replace hzW3 := Lib.hid hzW3
        replace hzW4 := Lib.hid hzW4
        replace hzW5 := Lib.hid hzW5
        go_wp2_with fail
        rw [show ((((W2.setCell ⟨w1.heap.size, 0, none⟩ (.int .u8 (tv : Int))).setCell ⟨w1.heap.size, 1, none⟩ (.bool false)).setCell ⟨w1.heap.size, 2, none⟩ (.int .i64 iv)).setCell ⟨w1.heap.size, 3, none⟩ (.string xv)).setCell ⟨w1.heap.size, 4, none⟩ (.bool bv) = W3 from hW3.out.symm]
        rw [show W3.setCell ⟨w1.heap.size, 10, none⟩ (.bool true) = W4 from hW4.out.symm]
        rw [show ((((((((((W4.setCell ⟨w.heap.size, 0, none⟩ (.int .u8 (tv : Int))).setCell ⟨w.heap.size, 1, none⟩ (.bool false)).setCell ⟨w.heap.size, 2, none⟩ (.int .i64 iv)).setCell ⟨w.heap.size, 3, none⟩ (.string xv)).setCell ⟨w.heap.size, 4, none⟩ (.bool bv)).setCell ⟨w.heap.size, 5, none⟩ (.int .u8 0)).setCell ⟨w.heap.size, 6, none⟩ (.bool true)).setCell ⟨w.heap.size, 7, none⟩ (.int .i64 0)).setCell ⟨w.heap.size, 8, none⟩ (.string ⟨#[]⟩)).setCell ⟨w.heap.size, 9, none⟩ (.bool false)).setCell ⟨w.heap.size, 10, none⟩ (.bool true) = W5 from hW5.out.symm]
        exact bodyPost_ret (v := .agg #[.int .u8 (tv : Int), .bool false, .int .i64 iv, .string xv, .bool bv, .int .u8 0, .bool true, .int .i64 0, .string ⟨#[]⟩, .bool false, .bool true]) (by simp [results, Tryz.results54, go_sem, r0.out, r1.out, r2.out, r3.out, r4.out, r5.out, r6.out, r7.out, r8.out, r9.out, r10.out]) rfl hf.out
      by_cases h8 : op = 8
      · have hd4 : ((op : Int) == 4) = false := by simp; omega
        have hd7 : ((op : Int) == 7) = false := by simp; omega
        have hd6 : ((op : Int) == 6) = false := by simp; omega
        have hd9 : ((op : Int) == 9) = false := by simp; omega
        have hd8 : ((op : Int) == 8) = true := by simp; omega
        replace h4 := Lib.hid h4
        replace h7 := Lib.hid h7
        replace h6 := Lib.hid h6
        replace h9 := Lib.hid h9
        replace h8 := Lib.hid h8
        have cE0 := HE.cell (o := 0) rfl
        have cE1 := HE.cell (o := 1) rfl
        have cE2 := HE.cell (o := 2) rfl
        have cE3 := HE.cell (o := 3) rfl
        have cE4 := HE.cell (o := 4) rfl
        have cE5 := HE.cell (o := 5) rfl
        have cE6 := HE.cell (o := 6) rfl
        have cE7 := HE.cell (o := 7) rfl
        have cE8 := HE.cell (o := 8) rfl
        have cR0 := HR.cell (o := 0) rfl
        have cR1 := HR.cell (o := 1) rfl
        have cR2 := HR.cell (o := 2) rfl
        have cR3 := HR.cell (o := 3) rfl
        have cR4 := HR.cell (o := 4) rfl
        have cR5 := HR.cell (o := 5) rfl
        have cR6 := HR.cell (o := 6) rfl
        have cR7 := HR.cell (o := 7) rfl
        have cR8 := HR.cell (o := 8) rfl
        have cR9 := HR.cell (o := 9) rfl
        have cR10 := HR.cell (o := 10) rfl
        have cS0 := HS.cell (o := 0) rfl
        have cS1 := HS.cell (o := 1) rfl
        have cS2 := HS.cell (o := 2) rfl
        have cS3 := HS.cell (o := 3) rfl
        have cS4 := HS.cell (o := 4) rfl
        have cS5 := HS.cell (o := 5) rfl
        have cS6 := HS.cell (o := 6) rfl
        have cS7 := HS.cell (o := 7) rfl
        have cS8 := HS.cell (o := 8) rfl
        have cS9 := HS.cell (o := 9) rfl
        have cS10 := HS.cell (o := 10) rfl
        have fR0 := HR.free 0
        have fR1 := HR.free 1
        have fR2 := HR.free 2
        have fR3 := HR.free 3
        have fR4 := HR.free 4
        have fR5 := HR.free 5
        have fR6 := HR.free 6
        have fR7 := HR.free 7
        have fR8 := HR.free 8
        have fR9 := HR.free 9
        have fR10 := HR.free 10
        have fS0 := HS.free 0
        have fS1 := HS.free 1
        have fS2 := HS.free 2
        have fS3 := HS.free 3
        have fS4 := HS.free 4
        have fS5 := HS.free 5
        have fS6 := HS.free 6
        have fS7 := HS.free 7
        have fS8 := HS.free 8
        have fS9 := HS.free 9
        have fS10 := HS.free 10
        obtain ⟨W3, hW3⟩ : ∃ W3, W3 = ((((W2.setCell ⟨w1.heap.size, 0, none⟩ (.int .u8 (tv : Int))).setCell ⟨w1.heap.size, 1, none⟩ (.bool false)).setCell ⟨w1.heap.size, 2, none⟩ (.int .i64 iv)).setCell ⟨w1.heap.size, 3, none⟩ (.string xv)).setCell ⟨w1.heap.size, 4, none⟩ (.bool bv) := ⟨_, rfl⟩
        replace HE : Has W3 (b) [.int .u8 (op : Int), pl, pr, .string cc, .int .u8 (tv : Int), .bool false, .int .i64 iv, .string xv, .bool bv] 46 := by rw [hW3]; exact (((((HE.set_ne (a := ⟨w1.heap.size, 0, none⟩) (by first | (simp; done) | (simp; omega) | omega) _).set_ne (a := ⟨w1.heap.size, 1, none⟩) (by first | (simp; done) | (simp; omega) | omega) _).set_ne (a := ⟨w1.heap.size, 2, none⟩) (by first | (simp; done) | (simp; omega) | omega) _).set_ne (a := ⟨w1.heap.size, 3, none⟩) (by first | (simp; done) | (simp; omega) | omega) _).set_ne (a := ⟨w1.heap.size, 4, none⟩) (by first | (simp; done) | (simp; omega) | omega) _)
        replace HR : Has W3 (w.heap.size) [.int .u8 0, .bool false, .int .i64 0, .string ⟨#[]⟩, .bool false, .int .u8 0, .bool false, .int .i64 0, .string ⟨#[]⟩, .bool false, .bool false] 92 := by rw [hW3]; exact (((((HR.set_ne (a := ⟨w1.heap.size, 0, none⟩) (by first | (simp; done) | (simp; omega) | omega) _).set_ne (a := ⟨w1.heap.size, 1, none⟩) (by first | (simp; done) | (simp; omega) | omega) _).set_ne (a := ⟨w1.heap.size, 2, none⟩) (by first | (simp; done) | (simp; omega) | omega) _).set_ne (a := ⟨w1.heap.size, 3, none⟩) (by first | (simp; done) | (simp; omega) | omega) _).set_ne (a := ⟨w1.heap.size, 4, none⟩) (by first | (simp; done) | (simp; omega) | omega) _)
        replace HS : Has W3 (w1.heap.size) [.int .u8 (tv : Int), .bool false, .int .i64 iv, .string xv, .bool bv, .int .u8 0, .bool true, .int .i64 0, .string ⟨#[]⟩, .bool false, .bool false] 92 := by rw [hW3]; exact (((((HS.set 0 (.int .u8 (tv : Int))).set 1 (.bool false)).set 2 (.int .i64 iv)).set 3 (.string xv)).set 4 (.bool bv))
        have hbW3 : Below w.heap.size w W3 := by rw [hW3]; exact (((((hbW2.setCell (p := ⟨w1.heap.size, 0, none⟩) (by first | exact Nat.le_refl _ | (simp; omega) | omega) _).setCell (p := ⟨w1.heap.size, 1, none⟩) (by first | exact Nat.le_refl _ | (simp; omega) | omega) _).setCell (p := ⟨w1.heap.size, 2, none⟩) (by first | exact Nat.le_refl _ | (simp; omega) | omega) _).setCell (p := ⟨w1.heap.size, 3, none⟩) (by first | exact Nat.le_refl _ | (simp; omega) | omega) _).setCell (p := ⟨w1.heap.size, 4, none⟩) (by first | exact Nat.le_refl _ | (simp; omega) | omega) _)
        have hzW3 : W3.heap.size = W2.heap.size := by rw [hW3]; simp
        replace hW3 := Lib.hid hW3
        obtain ⟨W4, hW4⟩ : ∃ W4, W4 = W3.setCell ⟨w1.heap.size, 10, none⟩ (.bool false) := ⟨_, rfl⟩
        replace HE : Has W4 (b) [.int .u8 (op : Int), pl, pr, .string cc, .int .u8 (tv : Int), .bool false, .int .i64 iv, .string xv, .bool bv] 46 := by rw [hW4]; exact (HE.set_ne (a := ⟨w1.heap.size, 10, none⟩) (by first | (simp; done) | (simp; omega) | omega) _)
        replace HR : Has W4 (w.heap.size) [.int .u8 0, .bool false, .int .i64 0, .string ⟨#[]⟩, .bool false, .int .u8 0, .bool false, .int .i64 0, .string ⟨#[]⟩, .bool false, .bool false] 92 := by rw [hW4]; exact (HR.set_ne (a := ⟨w1.heap.size, 10, none⟩) (by first | (simp; done) | (simp; omega) | omega) _)
        replace HS : Has W4 (w1.heap.size) [.int .u8 (tv : Int), .bool false, .int .i64 iv, .string xv, .bool bv, .int .u8 0, .bool true, .int .i64 0, .string ⟨#[]⟩, .bool false, .bool false] 92 := by rw [hW4]; exact (HS.set 10 (.bool false))
        have hbW4 : Below w.heap.size w W4 := by rw [hW4]; exact (hbW3.setCell (p := ⟨w1.heap.size, 10, none⟩) (by first | exact Nat.le_refl _ | (simp; omega) | omega) _)
        have hzW4 : W4.heap.size = W3.heap.size := by rw [hW4]; simp
        replace hW4 := Lib.hid hW4
        obtain ⟨W5, hW5⟩ : ∃ W5, W5 = ((((((((((W4.setCell ⟨w.heap.size, 0, none⟩ (.int .u8 (tv : Int))).setCell ⟨w.heap.size, 1, none⟩ (.bool false)).setCell ⟨w.heap.size, 2, none⟩ (.int .i64 iv)).setCell ⟨w.heap.size, 3, none⟩ (.string xv)).setCell ⟨w.heap.size, 4, none⟩ (.bool bv)).setCell ⟨w.heap.size, 5, none⟩ (.int .u8 0)).setCell ⟨w.heap.size, 6, none⟩ (.bool true)).setCell ⟨w.heap.size, 7, none⟩ (.int .i64 0)).setCell ⟨w.heap.size, 8, none⟩ (.string ⟨#[]⟩)).setCell ⟨w.heap.size, 9, none⟩ (.bool false)).setCell ⟨w.heap.size, 10, none⟩ (.bool false) := ⟨_, rfl⟩
        replace HE : Has W5 (b) [.int .u8 (op : Int), pl, pr, .string cc, .int .u8 (tv : Int), .bool false, .int .i64 iv, .string xv, .bool bv] 46 := by rw [hW5]; exact (((((((((((HE.set_ne (a := ⟨w.heap.size, 0, none⟩) (by first | (simp; done) | (simp; omega) | omega) _).set_ne (a := ⟨w.heap.size, 1, none⟩) (by first | (simp; done) | (simp; omega) | omega) _).set_ne (a := ⟨w.heap.size, 2, none⟩) (by first | (simp; done) | (simp; omega) | omega) _).set_ne (a := ⟨w.heap.size, 3, none⟩) (by first | (simp; done) | (simp; omega) | omega) _).set_ne (a := ⟨w.heap.size, 4, none⟩) (by first | (simp; done) | (simp; omega) | omega) _).set_ne (a := ⟨w.heap.size, 5, none⟩) (by first | (simp; done) | (simp; omega) | omega) _).set_ne (a := ⟨w.heap.size, 6, none⟩) (by first | (simp; done) | (simp; omega) | omega) _).set_ne (a := ⟨w.heap.size, 7, none⟩) (by first | (simp; done) | (simp; omega) | omega) _).set_ne (a := ⟨w.heap.size, 8, none⟩) (by first | (simp; done) | (simp; omega) | omega) _).set_ne (a := ⟨w.heap.size, 9, none⟩) (by first | (simp; done) | (simp; omega) | omega) _).set_ne (a := ⟨w.heap.size, 10, none⟩) (by first | (simp; done) | (simp; omega) | omega) _)
        replace HS : Has W5 (w1.heap.size) [.int .u8 (tv : Int), .bool false, .int .i64 iv, .string xv, .bool bv, .int .u8 0, .bool true, .int .i64 0, .string ⟨#[]⟩, .bool false, .bool false] 92 := by rw [hW5]; exact (((((((((((HS.set_ne (a := ⟨w.heap.size, 0, none⟩) (by first | (simp; done) | (simp; omega) | omega) _).set_ne (a := ⟨w.heap.size, 1, none⟩) (by first | (simp; done) | (simp; omega) | omega) _).set_ne (a := ⟨w.heap.size, 2, none⟩) (by first | (simp; done) | (simp; omega) | omega) _).set_ne (a := ⟨w.heap.size, 3, none⟩) (by first | (simp; done) | (simp; omega) | omega) _).set_ne (a := ⟨w.heap.size, 4, none⟩) (by first | (simp; done) | (simp; omega) | omega) _).set_ne (a := ⟨w.heap.size, 5, none⟩) (by first | (simp; done) | (simp; omega) | omega) _).set_ne (a := ⟨w.heap.size, 6, none⟩) (by first | (simp; done) | (simp; omega) | omega) _).set_ne (a := ⟨w.heap.size, 7, none⟩) (by first | (simp; done) | (simp; omega) | omega) _).set_ne (a := ⟨w.heap.size, 8, none⟩) (by first | (simp; done) | (simp; omega) | omega) _).set_ne (a := ⟨w.heap.size, 9, none⟩) (by first | (simp; done) | (simp; omega) | omega) _).set_ne (a := ⟨w.heap.size, 10, none⟩) (by first | (simp; done) | (simp; omega) | omega) _)
        replace HR : Has W5 (w.heap.size) [.int .u8 (tv : Int), .bool false, .int .i64 iv, .string xv, .bool bv, .int .u8 0, .bool true, .int .i64 0, .string ⟨#[]⟩, .bool false, .bool false] 92 := by rw [hW5]; exact (((((((((((HR.set 0 (.int .u8 (tv : Int))).set 1 (.bool false)).set 2 (.int .i64 iv)).set 3 (.string xv)).set 4 (.bool bv)).set 5 (.int .u8 0)).set 6 (.bool true)).set 7 (.int .i64 0)).set 8 (.string ⟨#[]⟩)).set 9 (.bool false)).set 10 (.bool false))
        have hbW5 : Below w.heap.size w W5 := by rw [hW5]; exact (((((((((((hbW4.setCell (p := ⟨w.heap.size, 0, none⟩) (by first | exact Nat.le_refl _ | (simp; omega) | omega) _).setCell (p := ⟨w.heap.size, 1, none⟩) (by first | exact Nat.le_refl _ | (simp; omega) | omega) _).setCell (p := ⟨w.heap.size, 2, none⟩) (by first | exact Nat.le_refl _ | (simp; omega) | omega) _).setCell (p := ⟨w.heap.size, 3, none⟩) (by first | exact Nat.le_refl _ | (simp; omega) | omega) _).setCell (p := ⟨w.heap.size, 4, none⟩) (by first | exact Nat.le_refl _ | (simp; omega) | omega) _).setCell (p := ⟨w.heap.size, 5, none⟩) (by first | exact Nat.le_refl _ | (simp; omega) | omega) _).setCell (p := ⟨w.heap.size, 6, none⟩) (by first | exact Nat.le_refl _ | (simp; omega) | omega) _).setCell (p := ⟨w.heap.size, 7, none⟩) (by first | exact Nat.le_refl _ | (simp; omega) | omega) _).setCell (p := ⟨w.heap.size, 8, none⟩) (by first | exact Nat.le_refl _ | (simp; omega) | omega) _).setCell (p := ⟨w.heap.size, 9, none⟩) (by first | exact Nat.le_refl _ | (simp; omega) | omega) _).setCell (p := ⟨w.heap.size, 10, none⟩) (by first | exact Nat.le_refl _ | (simp; omega) | omega) _)
        have hzW5 : W5.heap.size = W4.heap.size := by rw [hW5]; simp
        replace hW5 := Lib.hid hW5
        have hf : post (.returned (.agg #[.int .u8 (tv : Int), .bool false, .int .i64 iv, .string xv, .bool bv, .int .u8 0, .bool true, .int .i64 0, .string ⟨#[]⟩, .bool false, .bool false])) W5 := by
          rw [← hpost.out, hres.out]
          simp only [ne_eq, not_true_eq_false, not_false_eq_true, false_or, true_or, or_true, or_false, if_true, if_false, Bool.false_eq_true, hcc.out, h4.out, h7.out, h6.out, h9.out, h8.out]
          exact ⟨rfl, hbW5⟩
        replace hf := Lib.hid hf
        have r0 := Lib.hid (HR.cell (o := 0) rfl)
        have r1 := Lib.hid (HR.cell (o := 1) rfl)
        have r2 := Lib.hid (HR.cell (o := 2) rfl)
        have r3 := Lib.hid (HR.cell (o := 3) rfl)
        have r4 := Lib.hid (HR.cell (o := 4) rfl)
        have r5 := Lib.hid (HR.cell (o := 5) rfl)
        have r6 := Lib.hid (HR.cell (o := 6) rfl)
        have r7 := Lib.hid (HR.cell (o := 7) rfl)
        have r8 := Lib.hid (HR.cell (o := 8) rfl)
        have r9 := Lib.hid (HR.cell (o := 9) rfl)
        have r10 := Lib.hid (HR.cell (o := 10) rfl)
        replace hzW1 := Lib.hid hzW1
        replace hzW2 := Lib.hid hzW2
        replace hzW3 := Lib.hid hzW3
        replace hzW4 := Lib.hid hzW4
        replace hzW5 := Lib.hid hzW5
        go_wp2_with fail
        rw [show ((((W2.setCell ⟨w1.heap.size, 0, none⟩ (.int .u8 (tv : Int))).setCell ⟨w1.heap.size, 1, none⟩ (.bool false)).setCell ⟨w1.heap.size, 2, none⟩ (.int .i64 iv)).setCell ⟨w1.heap.size, 3, none⟩ (.string xv)).setCell ⟨w1.heap.size, 4, none⟩ (.bool bv) = W3 from hW3.out.symm]
        rw [show W3.setCell ⟨w1.heap.size, 10, none⟩ (.bool false) = W4 from hW4.out.symm]
        rw [show ((((((((((W4.setCell ⟨w.heap.size, 0, none⟩ (.int .u8 (tv : Int))).setCell ⟨w.heap.size, 1, none⟩ (.bool false)).setCell ⟨w.heap.size, 2, none⟩ (.int .i64 iv)).setCell ⟨w.heap.size, 3, none⟩ (.string xv)).setCell ⟨w.heap.size, 4, none⟩ (.bool bv)).setCell ⟨w.heap.size, 5, none⟩ (.int .u8 0)).setCell ⟨w.heap.size, 6, none⟩ (.bool true)).setCell ⟨w.heap.size, 7, none⟩ (.int .i64 0)).setCell ⟨w.heap.size, 8, none⟩ (.string ⟨#[]⟩)).setCell ⟨w.heap.size, 9, none⟩ (.bool false)).setCell ⟨w.heap.size, 10, none⟩ (.bool false) = W5 from hW5.out.symm]
        exact bodyPost_ret (v := .agg #[.int .u8 (tv : Int), .bool false, .int .i64 iv, .string xv, .bool bv, .int .u8 0, .bool true, .int .i64 0, .string ⟨#[]⟩, .bool false, .bool false]) (by simp [results, Tryz.results54, go_sem, r0.out, r1.out, r2.out, r3.out, r4.out, r5.out, r6.out, r7.out, r8.out, r9.out, r10.out]) rfl hf.out
      have hd4 : ((op : Int) == 4) = false := by simp; omega
      have hd7 : ((op : Int) == 7) = false := by simp; omega
      have hd6 : ((op : Int) == 6) = false := by simp; omega
      have hd9 : ((op : Int) == 9) = false := by simp; omega
      have hd8 : ((op : Int) == 8) = false := by simp; omega
      have cE0 := HE.cell (o := 0) rfl
      have cE1 := HE.cell (o := 1) rfl
      have cE2 := HE.cell (o := 2) rfl
      have cE3 := HE.cell (o := 3) rfl
      have cE4 := HE.cell (o := 4) rfl
      have cE5 := HE.cell (o := 5) rfl
      have cE6 := HE.cell (o := 6) rfl
      have cE7 := HE.cell (o := 7) rfl
      have cE8 := HE.cell (o := 8) rfl
      have cR0 := HR.cell (o := 0) rfl
      have cR1 := HR.cell (o := 1) rfl
      have cR2 := HR.cell (o := 2) rfl
      have cR3 := HR.cell (o := 3) rfl
      have cR4 := HR.cell (o := 4) rfl
      have cR5 := HR.cell (o := 5) rfl
      have cR6 := HR.cell (o := 6) rfl
      have cR7 := HR.cell (o := 7) rfl
      have cR8 := HR.cell (o := 8) rfl
      have cR9 := HR.cell (o := 9) rfl
      have cR10 := HR.cell (o := 10) rfl
      have cS0 := HS.cell (o := 0) rfl
      have cS1 := HS.cell (o := 1) rfl
      have cS2 := HS.cell (o := 2) rfl
      have cS3 := HS.cell (o := 3) rfl
      have cS4 := HS.cell (o := 4) rfl
      have cS5 := HS.cell (o := 5) rfl
      have cS6 := HS.cell (o := 6) rfl
      have cS7 := HS.cell (o := 7) rfl
      have cS8 := HS.cell (o := 8) rfl
      have cS9 := HS.cell (o := 9) rfl
      have cS10 := HS.cell (o := 10) rfl
      have fR0 := HR.free 0
      have fR1 := HR.free 1
      have fR2 := HR.free 2
      have fR3 := HR.free 3
      have fR4 := HR.free 4
      have fR5 := HR.free 5
      have fR6 := HR.free 6
      have fR7 := HR.free 7
      have fR8 := HR.free 8
      have fR9 := HR.free 9
      have fR10 := HR.free 10
      have fS0 := HS.free 0
      have fS1 := HS.free 1
      have fS2 := HS.free 2
      have fS3 := HS.free 3
      have fS4 := HS.free 4
      have fS5 := HS.free 5
      have fS6 := HS.free 6
      have fS7 := HS.free 7
      have fS8 := HS.free 8
      have fS9 := HS.free 9
      have fS10 := HS.free 10
      obtain ⟨W3, hW3⟩ : ∃ W3, W3 = ((((((((((W2.setCell ⟨w.heap.size, 0, none⟩ (.int .u8 0)).setCell ⟨w.heap.size, 1, none⟩ (.bool true)).setCell ⟨w.heap.size, 2, none⟩ (.int .i64 0)).setCell ⟨w.heap.size, 3, none⟩ (.string ⟨#[]⟩)).setCell ⟨w.heap.size, 4, none⟩ (.bool false)).setCell ⟨w.heap.size, 5, none⟩ (.int .u8 0)).setCell ⟨w.heap.size, 6, none⟩ (.bool true)).setCell ⟨w.heap.size, 7, none⟩ (.int .i64 0)).setCell ⟨w.heap.size, 8, none⟩ (.string ⟨#[]⟩)).setCell ⟨w.heap.size, 9, none⟩ (.bool false)).setCell ⟨w.heap.size, 10, none⟩ (.bool false) := ⟨_, rfl⟩
      replace HE : Has W3 (b) [.int .u8 (op : Int), pl, pr, .string cc, .int .u8 (tv : Int), .bool false, .int .i64 iv, .string xv, .bool bv] 46 := by rw [hW3]; exact (((((((((((HE.set_ne (a := ⟨w.heap.size, 0, none⟩) (by first | (simp; done) | (simp; omega) | omega) _).set_ne (a := ⟨w.heap.size, 1, none⟩) (by first | (simp; done) | (simp; omega) | omega) _).set_ne (a := ⟨w.heap.size, 2, none⟩) (by first | (simp; done) | (simp; omega) | omega) _).set_ne (a := ⟨w.heap.size, 3, none⟩) (by first | (simp; done) | (simp; omega) | omega) _).set_ne (a := ⟨w.heap.size, 4, none⟩) (by first | (simp; done) | (simp; omega) | omega) _).set_ne (a := ⟨w.heap.size, 5, none⟩) (by first | (simp; done) | (simp; omega) | omega) _).set_ne (a := ⟨w.heap.size, 6, none⟩) (by first | (simp; done) | (simp; omega) | omega) _).set_ne (a := ⟨w.heap.size, 7, none⟩) (by first | (simp; done) | (simp; omega) | omega) _).set_ne (a := ⟨w.heap.size, 8, none⟩) (by first | (simp; done) | (simp; omega) | omega) _).set_ne (a := ⟨w.heap.size, 9, none⟩) (by first | (simp; done) | (simp; omega) | omega) _).set_ne (a := ⟨w.heap.size, 10, none⟩) (by first | (simp; done) | (simp; omega) | omega) _)
      replace HS : Has W3 (w1.heap.size) [.int .u8 0, .bool true, .int .i64 0, .string ⟨#[]⟩, .bool false, .int .u8 0, .bool true, .int .i64 0, .string ⟨#[]⟩, .bool false, .bool false] 92 := by rw [hW3]; exact (((((((((((HS.set_ne (a := ⟨w.heap.size, 0, none⟩) (by first | (simp; done) | (simp; omega) | omega) _).set_ne (a := ⟨w.heap.size, 1, none⟩) (by first | (simp; done) | (simp; omega) | omega) _).set_ne (a := ⟨w.heap.size, 2, none⟩) (by first | (simp; done) | (simp; omega) | omega) _).set_ne (a := ⟨w.heap.size, 3, none⟩) (by first | (simp; done) | (simp; omega) | omega) _).set_ne (a := ⟨w.heap.size, 4, none⟩) (by first | (simp; done) | (simp; omega) | omega) _).set_ne (a := ⟨w.heap.size, 5, none⟩) (by first | (simp; done) | (simp; omega) | omega) _).set_ne (a := ⟨w.heap.size, 6, none⟩) (by first | (simp; done) | (simp; omega) | omega) _).set_ne (a := ⟨w.heap.size, 7, none⟩) (by first | (simp; done) | (simp; omega) | omega) _).set_ne (a := ⟨w.heap.size, 8, none⟩) (by first | (simp; done) | (simp; omega) | omega) _).set_ne (a := ⟨w.heap.size, 9, none⟩) (by first | (simp; done) | (simp; omega) | omega) _).set_ne (a := ⟨w.heap.size, 10, none⟩) (by first | (simp; done) | (simp; omega) | omega) _)
      replace HR : Has W3 (w.heap.size) [.int .u8 0, .bool true, .int .i64 0, .string ⟨#[]⟩, .bool false, .int .u8 0, .bool true, .int .i64 0, .string ⟨#[]⟩, .bool false, .bool false] 92 := by rw [hW3]; exact (((((((((((HR.set 0 (.int .u8 0)).set 1 (.bool true)).set 2 (.int .i64 0)).set 3 (.string ⟨#[]⟩)).set 4 (.bool false)).set 5 (.int .u8 0)).set 6 (.bool true)).set 7 (.int .i64 0)).set 8 (.string ⟨#[]⟩)).set 9 (.bool false)).set 10 (.bool false))
      have hbW3 : Below w.heap.size w W3 := by rw [hW3]; exact (((((((((((hbW2.setCell (p := ⟨w.heap.size, 0, none⟩) (by first | exact Nat.le_refl _ | (simp; omega) | omega) _).setCell (p := ⟨w.heap.size, 1, none⟩) (by first | exact Nat.le_refl _ | (simp; omega) | omega) _).setCell (p := ⟨w.heap.size, 2, none⟩) (by first | exact Nat.le_refl _ | (simp; omega) | omega) _).setCell (p := ⟨w.heap.size, 3, none⟩) (by first | exact Nat.le_refl _ | (simp; omega) | omega) _).setCell (p := ⟨w.heap.size, 4, none⟩) (by first | exact Nat.le_refl _ | (simp; omega) | omega) _).setCell (p := ⟨w.heap.size, 5, none⟩) (by first | exact Nat.le_refl _ | (simp; omega) | omega) _).setCell (p := ⟨w.heap.size, 6, none⟩) (by first | exact Nat.le_refl _ | (simp; omega) | omega) _).setCell (p := ⟨w.heap.size, 7, none⟩) (by first | exact Nat.le_refl _ | (simp; omega) | omega) _).setCell (p := ⟨w.heap.size, 8, none⟩) (by first | exact Nat.le_refl _ | (simp; omega) | omega) _).setCell (p := ⟨w.heap.size, 9, none⟩) (by first | exact Nat.le_refl _ | (simp; omega) | omega) _).setCell (p := ⟨w.heap.size, 10, none⟩) (by first | exact Nat.le_refl _ | (simp; omega) | omega) _)
      have hzW3 : W3.heap.size = W2.heap.size := by rw [hW3]; simp
      replace hW3 := Lib.hid hW3
      have hf : post (.returned (.agg #[.int .u8 0, .bool true, .int .i64 0, .string ⟨#[]⟩, .bool false, .int .u8 0, .bool true, .int .i64 0, .string ⟨#[]⟩, .bool false, .bool false])) W3 := by
        rw [← hpost.out, hres.out]
        simp only [ne_eq, not_true_eq_false, not_false_eq_true, false_or, true_or, or_true, or_false, if_true, if_false, Bool.false_eq_true, hcc.out, h4, h7, h6, h9, h8]
        exact ⟨rfl, hbW3⟩
      replace hf := Lib.hid hf
      have r0 := Lib.hid (HR.cell (o := 0) rfl)
      have r1 := Lib.hid (HR.cell (o := 1) rfl)
      have r2 := Lib.hid (HR.cell (o := 2) rfl)
      have r3 := Lib.hid (HR.cell (o := 3) rfl)
      have r4 := Lib.hid (HR.cell (o := 4) rfl)
      have r5 := Lib.hid (HR.cell (o := 5) rfl)
      have r6 := Lib.hid (HR.cell (o := 6) rfl)
      have r7 := Lib.hid (HR.cell (o := 7) rfl)
      have r8 := Lib.hid (HR.cell (o := 8) rfl)
      have r9 := Lib.hid (HR.cell (o := 9) rfl)
      have r10 := Lib.hid (HR.cell (o := 10) rfl)
      replace hzW1 := Lib.hid hzW1
      replace hzW2 := Lib.hid hzW2
      replace hzW3 := Lib.hid hzW3
      go_wp2_with fail
      rw [show ((((((((((W2.setCell ⟨w.heap.size, 0, none⟩ (.int .u8 0)).setCell ⟨w.heap.size, 1, none⟩ (.bool true)).setCell ⟨w.heap.size, 2, none⟩ (.int .i64 0)).setCell ⟨w.heap.size, 3, none⟩ (.string ⟨#[]⟩)).setCell ⟨w.heap.size, 4, none⟩ (.bool false)).setCell ⟨w.heap.size, 5, none⟩ (.int .u8 0)).setCell ⟨w.heap.size, 6, none⟩ (.bool true)).setCell ⟨w.heap.size, 7, none⟩ (.int .i64 0)).setCell ⟨w.heap.size, 8, none⟩ (.string ⟨#[]⟩)).setCell ⟨w.heap.size, 9, none⟩ (.bool false)).setCell ⟨w.heap.size, 10, none⟩ (.bool false) = W3 from hW3.out.symm]
      exact bodyPost_ret (v := .agg #[.int .u8 0, .bool true, .int .i64 0, .string ⟨#[]⟩, .bool false, .int .u8 0, .bool true, .int .i64 0, .string ⟨#[]⟩, .bool false, .bool false]) (by simp [results, Tryz.results54, go_sem, r0.out, r1.out, r2.out, r3.out, r4.out, r5.out, r6.out, r7.out, r8.out, r9.out, r10.out]) rfl hf.out
  · have hs : (cc.toList == col.toList) = false := by rw [str_eq]; exact decide_eq_false hcc
    replace hcc := Lib.hid hcc
    have cE0 := HE.cell (o := 0) rfl
    have cE1 := HE.cell (o := 1) rfl
    have cE2 := HE.cell (o := 2) rfl
    have cE3 := HE.cell (o := 3) rfl
    have cE4 := HE.cell (o := 4) rfl
    have cE5 := HE.cell (o := 5) rfl
    have cE6 := HE.cell (o := 6) rfl
    have cE7 := HE.cell (o := 7) rfl
    have cE8 := HE.cell (o := 8) rfl
    have cR0 := HR.cell (o := 0) rfl
    have cR1 := HR.cell (o := 1) rfl
    have cR2 := HR.cell (o := 2) rfl
    have cR3 := HR.cell (o := 3) rfl
    have cR4 := HR.cell (o := 4) rfl
    have cR5 := HR.cell (o := 5) rfl
    have cR6 := HR.cell (o := 6) rfl
    have cR7 := HR.cell (o := 7) rfl
    have cR8 := HR.cell (o := 8) rfl
    have cR9 := HR.cell (o := 9) rfl
    have cR10 := HR.cell (o := 10) rfl
    have cS0 := HS.cell (o := 0) rfl
    have cS1 := HS.cell (o := 1) rfl
    have cS2 := HS.cell (o := 2) rfl
    have cS3 := HS.cell (o := 3) rfl
    have cS4 := HS.cell (o := 4) rfl
    have cS5 := HS.cell (o := 5) rfl
    have cS6 := HS.cell (o := 6) rfl
    have cS7 := HS.cell (o := 7) rfl
    have cS8 := HS.cell (o := 8) rfl
    have cS9 := HS.cell (o := 9) rfl
    have cS10 := HS.cell (o := 10) rfl
    have fR0 := HR.free 0
    have fR1 := HR.free 1
    have fR2 := HR.free 2
    have fR3 := HR.free 3
    have fR4 := HR.free 4
    have fR5 := HR.free 5
    have fR6 := HR.free 6
    have fR7 := HR.free 7
    have fR8 := HR.free 8
    have fR9 := HR.free 9
    have fR10 := HR.free 10
    have fS0 := HS.free 0
    have fS1 := HS.free 1
    have fS2 := HS.free 2
    have fS3 := HS.free 3
    have fS4 := HS.free 4
    have fS5 := HS.free 5
    have fS6 := HS.free 6
    have fS7 := HS.free 7
    have fS8 := HS.free 8
    have fS9 := HS.free 9
    have fS10 := HS.free 10
    obtain ⟨W3, hW3⟩ : ∃ W3, W3 = ((((((((((W2.setCell ⟨w.heap.size, 0, none⟩ (.int .u8 0)).setCell ⟨w.heap.size, 1, none⟩ (.bool true)).setCell ⟨w.heap.size, 2, none⟩ (.int .i64 0)).setCell ⟨w.heap.size, 3, none⟩ (.string ⟨#[]⟩)).setCell ⟨w.heap.size, 4, none⟩ (.bool false)).setCell ⟨w.heap.size, 5, none⟩ (.int .u8 0)).setCell ⟨w.heap.size, 6, none⟩ (.bool true)).setCell ⟨w.heap.size, 7, none⟩ (.int .i64 0)).setCell ⟨w.heap.size, 8, none⟩ (.string ⟨#[]⟩)).setCell ⟨w.heap.size, 9, none⟩ (.bool false)).setCell ⟨w.heap.size, 10, none⟩ (.bool false) := ⟨_, rfl⟩
    replace HE : Has W3 (b) [.int .u8 (op : Int), pl, pr, .string cc, .int .u8 (tv : Int), .bool nv, .int .i64 iv, .string xv, .bool bv] 46 := by rw [hW3]; exact (((((((((((HE.set_ne (a := ⟨w.heap.size, 0, none⟩) (by first | (simp; done) | (simp; omega) | omega) _).set_ne (a := ⟨w.heap.size, 1, none⟩) (by first | (simp; done) | (simp; omega) | omega) _).set_ne (a := ⟨w.heap.size, 2, none⟩) (by first | (simp; done) | (simp; omega) | omega) _).set_ne (a := ⟨w.heap.size, 3, none⟩) (by first | (simp; done) | (simp; omega) | omega) _).set_ne (a := ⟨w.heap.size, 4, none⟩) (by first | (simp; done) | (simp; omega) | omega) _).set_ne (a := ⟨w.heap.size, 5, none⟩) (by first | (simp; done) | (simp; omega) | omega) _).set_ne (a := ⟨w.heap.size, 6, none⟩) (by first | (simp; done) | (simp; omega) | omega) _).set_ne (a := ⟨w.heap.size, 7, none⟩) (by first | (simp; done) | (simp; omega) | omega) _).set_ne (a := ⟨w.heap.size, 8, none⟩) (by first | (simp; done) | (simp; omega) | omega) _).set_ne (a := ⟨w.heap.size, 9, none⟩) (by first | (simp; done) | (simp; omega) | omega) _).set_ne (a := ⟨w.heap.size, 10, none⟩) (by first | (simp; done) | (simp; omega) | omega) _)
    replace HS : Has W3 (w1.heap.size) [.int .u8 0, .bool true, .int .i64 0, .string ⟨#[]⟩, .bool false, .int .u8 0, .bool true, .int .i64 0, .string ⟨#[]⟩, .bool false, .bool false] 92 := by rw [hW3]; exact (((((((((((HS.set_ne (a := ⟨w.heap.size, 0, none⟩) (by first | (simp; done) | (simp; omega) | omega) _).set_ne (a := ⟨w.heap.size, 1, none⟩) (by first | (simp; done) | (simp; omega) | omega) _).set_ne (a := ⟨w.heap.size, 2, none⟩) (by first | (simp; done) | (simp; omega) | omega) _).set_ne (a := ⟨w.heap.size, 3, none⟩) (by first | (simp; done) | (simp; omega) | omega) _).set_ne (a := ⟨w.heap.size, 4, none⟩) (by first | (simp; done) | (simp; omega) | omega) _).set_ne (a := ⟨w.heap.size, 5, none⟩) (by first | (simp; done) | (simp; omega) | omega) _).set_ne (a := ⟨w.heap.size, 6, none⟩) (by first | (simp; done) | (simp; omega) | omega) _).set_ne (a := ⟨w.heap.size, 7, none⟩) (by first | (simp; done) | (simp; omega) | omega) _).set_ne (a := ⟨w.heap.size, 8, none⟩) (by first | (simp; done) | (simp; omega) | omega) _).set_ne (a := ⟨w.heap.size, 9, none⟩) (by first | (simp; done) | (simp; omega) | omega) _).set_ne (a := ⟨w.heap.size, 10, none⟩) (by first | (simp; done) | (simp; omega) | omega) _)
    replace HR : Has W3 (w.heap.size) [.int .u8 0, .bool true, .int .i64 0, .string ⟨#[]⟩, .bool false, .int .u8 0, .bool true, .int .i64 0, .string ⟨#[]⟩, .bool false, .bool false] 92 := by rw [hW3]; exact (((((((((((HR.set 0 (.int .u8 0)).set 1 (.bool true)).set 2 (.int .i64 0)).set 3 (.string ⟨#[]⟩)).set 4 (.bool false)).set 5 (.int .u8 0)).set 6 (.bool true)).set 7 (.int .i64 0)).set 8 (.string ⟨#[]⟩)).set 9 (.bool false)).set 10 (.bool false))
    have hbW3 : Below w.heap.size w W3 := by rw [hW3]; exact (((((((((((hbW2.setCell (p := ⟨w.heap.size, 0, none⟩) (by first | exact Nat.le_refl _ | (simp; omega) | omega) _).setCell (p := ⟨w.heap.size, 1, none⟩) (by first | exact Nat.le_refl _ | (simp; omega) | omega) _).setCell (p := ⟨w.heap.size, 2, none⟩) (by first | exact Nat.le_refl _ | (simp; omega) | omega) _).setCell (p := ⟨w.heap.size, 3, none⟩) (by first | exact Nat.le_refl _ | (simp; omega) | omega) _).setCell (p := ⟨w.heap.size, 4, none⟩) (by first | exact Nat.le_refl _ | (simp; omega) | omega) _).setCell (p := ⟨w.heap.size, 5, none⟩) (by first | exact Nat.le_refl _ | (simp; omega) | omega) _).setCell (p := ⟨w.heap.size, 6, none⟩) (by first | exact Nat.le_refl _ | (simp; omega) | omega) _).setCell (p := ⟨w.heap.size, 7, none⟩) (by first | exact Nat.le_refl _ | (simp; omega) | omega) _).setCell (p := ⟨w.heap.size, 8, none⟩) (by first | exact Nat.le_refl _ | (simp; omega) | omega) _).setCell (p := ⟨w.heap.size, 9, none⟩) (by first | exact Nat.le_refl _ | (simp; omega) | omega) _).setCell (p := ⟨w.heap.size, 10, none⟩) (by first | exact Nat.le_refl _ | (simp; omega) | omega) _)
    have hzW3 : W3.heap.size = W2.heap.size := by rw [hW3]; simp
    replace hW3 := Lib.hid hW3
    have hf : post (.returned (.agg #[.int .u8 0, .bool true, .int .i64 0, .string ⟨#[]⟩, .bool false, .int .u8 0, .bool true, .int .i64 0, .string ⟨#[]⟩, .bool false, .bool false])) W3 := by
      rw [← hpost.out, hres.out]
      simp only [ne_eq, not_true_eq_false, not_false_eq_true, false_or, true_or, or_true, or_false, if_true, if_false, Bool.false_eq_true, hcc.out]
      exact ⟨rfl, hbW3⟩
    replace hf := Lib.hid hf
    have r0 := Lib.hid (HR.cell (o := 0) rfl)
    have r1 := Lib.hid (HR.cell (o := 1) rfl)
    have r2 := Lib.hid (HR.cell (o := 2) rfl)
    have r3 := Lib.hid (HR.cell (o := 3) rfl)
    have r4 := Lib.hid (HR.cell (o := 4) rfl)
    have r5 := Lib.hid (HR.cell (o := 5) rfl)
    have r6 := Lib.hid (HR.cell (o := 6) rfl)
    have r7 := Lib.hid (HR.cell (o := 7) rfl)
    have r8 := Lib.hid (HR.cell (o := 8) rfl)
    have r9 := Lib.hid (HR.cell (o := 9) rfl)
    have r10 := Lib.hid (HR.cell (o := 10) rfl)
    replace hzW1 := Lib.hid hzW1
    replace hzW2 := Lib.hid hzW2
    replace hzW3 := Lib.hid hzW3
    go_wp2_with fail
    rw [show ((((((((((W2.setCell ⟨w.heap.size, 0, none⟩ (.int .u8 0)).setCell ⟨w.heap.size, 1, none⟩ (.bool true)).setCell ⟨w.heap.size, 2, none⟩ (.int .i64 0)).setCell ⟨w.heap.size, 3, none⟩ (.string ⟨#[]⟩)).setCell ⟨w.heap.size, 4, none⟩ (.bool false)).setCell ⟨w.heap.size, 5, none⟩ (.int .u8 0)).setCell ⟨w.heap.size, 6, none⟩ (.bool true)).setCell ⟨w.heap.size, 7, none⟩ (.int .i64 0)).setCell ⟨w.heap.size, 8, none⟩ (.string ⟨#[]⟩)).setCell ⟨w.heap.size, 9, none⟩ (.bool false)).setCell ⟨w.heap.size, 10, none⟩ (.bool false) = W3 from hW3.out.symm]
    exact bodyPost_ret (v := .agg #[.int .u8 0, .bool true, .int .i64 0, .string ⟨#[]⟩, .bool false, .int .u8 0, .bool true, .int .i64 0, .string ⟨#[]⟩, .bool false, .bool false]) (by simp [results, Tryz.results54, go_sem, r0.out, r1.out, r2.out, r3.out, r4.out, r5.out, r6.out, r7.out, r8.out, r9.out, r10.out]) rfl hf.out
end Go.Proofs.YtgnoikfmhncbmaaGreatDoor
