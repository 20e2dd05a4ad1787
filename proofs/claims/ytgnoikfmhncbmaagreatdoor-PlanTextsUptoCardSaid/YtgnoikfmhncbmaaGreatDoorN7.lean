/- Walks: Text and the reference's Text, of any plan. -/
import Derived.Test.YtgnoikfmhncbmaaGreatDoorN5
import Derived.Test.YtgnoikfmhncbmaaGreatDoorN53
import Derived.Test.YtgnoikfmhncbmaaGreatDoorN6
set_option linter.unusedVariables false
set_option linter.unusedSimpArgs false
namespace Go.Proofs.YtgnoikfmhncbmaaGreatDoor
open Go.RowKit Go.Lib
set_option maxHeartbeats 4000000 in
theorem ptext_any {w : World} (hE : Env w) (p : Nat) (col : ByteArray) (ta : Nat) (na : Bool) (ia : Int) (xa : ByteArray) (ba1 : Bool) (tb : Nat) (nb : Bool) (ib : Int) (xb : ByteArray) (bb : Bool) (fa fb : Nat) (hfa : fa < 4294967296) (hfb : fb < 4294967296) (f : Option Addr) (od : ByteArray) (ds : Bool) (lm : Int) (hl0 : -9223372036854775808 ≤ lm) (hl1 : lm ≤ 9223372036854775807)
    (hsa : xa.size ≤ 9223372036854775807) (hsb : xb.size ≤ 9223372036854775807) (hsz : (textL p col ⟨ta, na, ia, xa, ba1⟩ ⟨tb, nb, ib, xb, bb⟩ fa fb f.isSome od ds lm).length ≤ 140737488355328) :
    Calls Tryz.prog 15 #[.agg #[.int .u8 (p : Int), .string col, .int .u8 (ta : Int), .bool na, .int .i64 ia, .string xa, .bool ba1, .int .u8 (tb : Int), .bool nb, .int .i64 ib, .string xb, .bool bb, .int .u32 (fa : Int), .int .u32 (fb : Int), .pointer f, .string od, .bool ds, .int .i64 lm]] w (RPost w (.string (ba (textL p col ⟨ta, na, ia, xa, ba1⟩ ⟨tb, nb, ib, xb, bb⟩ fa fb f.isSome od ds lm)))) := by
  by_cases h3 : p = 1 ∨ p = 2 ∨ p = 3
  · rw [textL, if_pos h3] at hsz ⊢
    rcases h3 with rfl | rfl | rfl
    · exact text_p1 hE col ta na ia xa ba1 tb nb ib xb bb fa fb hfa hfb f od ds lm hl0 hl1 hsa hsb hsz
    · exact text_p2 hE col ta na ia xa ba1 tb nb ib xb bb fa fb hfa hfb f od ds lm hl0 hl1 hsa hsb hsz
    · exact text_p3 hE col ta na ia xa ba1 tb nb ib xb bb fa fb hfa hfb f od ds lm hl0 hl1 hsa hsb hsz
  · rw [textL, if_neg h3] at hsz ⊢
    have e1 : ((p : Int) == 1) = false := by simp; omega
    have e2 : ((p : Int) == 2) = false := by simp; omega
    have e3 : ((p : Int) == 3) = false := by simp; omega
    have n1 : ¬ (p : Int) = 1 := by omega
    have n2 : ¬ (p : Int) = 2 := by omega
    have n3 : ¬ (p : Int) = 3 := by omega
    obtain ⟨W, hW⟩ : ∃ W, W = w.alloc (.cells #[.int .u8 (p : Int), .string col, .int .u8 (ta : Int), .bool na, .int .i64 ia, .string xa, .bool ba1, .int .u8 (tb : Int), .bool nb, .int .i64 ib, .string xb, .bool bb, .int .u32 (fa : Int), .int .u32 (fb : Int), .pointer f, .string od, .bool ds, .int .i64 lm] 43) := ⟨_, rfl⟩
    have hP : Has W w.heap.size [.int .u8 (p : Int), .string col, .int .u8 (ta : Int), .bool na, .int .i64 ia, .string xa, .bool ba1, .int .u8 (tb : Int), .bool nb, .int .i64 ib, .string xb, .bool bb, .int .u32 (fa : Int), .int .u32 (fb : Int), .pointer f, .string od, .bool ds, .int .i64 lm] 43 := by rw [hW]; exact Has.new w _ _
    have hBW : Below w.heap.size w W := by rw [hW]; exact (Below.refl _ _).alloc (Nat.le_refl _) _
    replace hW := Lib.hid hW.symm
    have c0 := hP.cell (o := 0) rfl
    have hfin : RPost w (.string (ba [])) (.returned (.string ⟨#[]⟩)) W := ⟨rfl, hBW⟩
    generalize RPost w (.string (ba [])) = post at *
    replace hfin := Lib.hid hfin
    replace hP := Lib.hid hP
    replace hBW := Lib.hid hBW
    replace h3 := Lib.hid h3
    clear hsz
    go_enter Tryz.func15, Tryz.ntmps15
    go_upto_region 1 with fail
    rw [hW.out]
    go_wp2_with fail
    exact hfin.out
set_option maxHeartbeats 4000000 in
theorem rptext_any {w : World} (p : Nat) (col : ByteArray) (ta : Nat) (na : Bool) (ia : Int) (xa : ByteArray) (ba1 : Bool) (tb : Nat) (nb : Bool) (ib : Int) (xb : ByteArray) (bb : Bool) (fa fb : Nat) (hfa : fa < 4294967296) (hfb : fb < 4294967296) (fs : Bool) (od : ByteArray) (ds : Bool) (lm : Int) (hl0 : -9223372036854775808 ≤ lm) (hl1 : lm ≤ 9223372036854775807)
    (hsa : xa.size ≤ 9223372036854775807) (hsb : xb.size ≤ 9223372036854775807) (hsz : (textL p col ⟨ta, na, ia, xa, ba1⟩ ⟨tb, nb, ib, xb, bb⟩ fa fb fs od ds lm).length ≤ 140737488355328) :
    Calls Tryz.prog 16 #[.agg #[.int .i64 (p : Int), .string col, .int .i64 (ta : Int), .bool na, .int .i64 ia, .string xa, .bool ba1, .int .i64 (tb : Int), .bool nb, .int .i64 ib, .string xb, .bool bb, .int .u32 (fa : Int), .int .u32 (fb : Int), .string od, .bool ds, .int .i64 lm], .bool fs] w (RPost w (.string (ba (textL p col ⟨ta, na, ia, xa, ba1⟩ ⟨tb, nb, ib, xb, bb⟩ fa fb fs od ds lm)))) := by
  by_cases h3 : p = 1 ∨ p = 2 ∨ p = 3
  · rw [textL, if_pos h3] at hsz ⊢
    rcases h3 with rfl | rfl | rfl
    · exact rtext_p1 col ta na ia xa ba1 tb nb ib xb bb fa fb hfa hfb fs od ds lm hl0 hl1 hsa hsb hsz
    · exact rtext_p2 col ta na ia xa ba1 tb nb ib xb bb fa fb hfa hfb fs od ds lm hl0 hl1 hsa hsb hsz
    · exact rtext_p3 col ta na ia xa ba1 tb nb ib xb bb fa fb hfa hfb fs od ds lm hl0 hl1 hsa hsb hsz
  · rw [textL, if_neg h3] at hsz ⊢
    have e1 : ((p : Int) == 1) = false := by simp; omega
    have e2 : ((p : Int) == 2) = false := by simp; omega
    have e3 : ((p : Int) == 3) = false := by simp; omega
    have n1 : ¬ (p : Int) = 1 := by omega
    have n2 : ¬ (p : Int) = 2 := by omega
    have n3 : ¬ (p : Int) = 3 := by omega
    obtain ⟨W, hW⟩ : ∃ W, W = w.alloc (.cells #[.int .i64 (p : Int), .string col, .int .i64 (ta : Int), .bool na, .int .i64 ia, .string xa, .bool ba1, .int .i64 (tb : Int), .bool nb, .int .i64 ib, .string xb, .bool bb, .int .u32 (fa : Int), .int .u32 (fb : Int), .string od, .bool ds, .int .i64 lm] 48) := ⟨_, rfl⟩
    have hP : Has W w.heap.size [.int .i64 (p : Int), .string col, .int .i64 (ta : Int), .bool na, .int .i64 ia, .string xa, .bool ba1, .int .i64 (tb : Int), .bool nb, .int .i64 ib, .string xb, .bool bb, .int .u32 (fa : Int), .int .u32 (fb : Int), .string od, .bool ds, .int .i64 lm] 48 := by rw [hW]; exact Has.new w _ _
    have hBW : Below w.heap.size w W := by rw [hW]; exact (Below.refl _ _).alloc (Nat.le_refl _) _
    replace hW := Lib.hid hW.symm
    have c0 := hP.cell (o := 0) rfl
    have hfin : RPost w (.string (ba [])) (.returned (.string ⟨#[]⟩)) W := ⟨rfl, hBW⟩
    generalize RPost w (.string (ba [])) = post at *
    replace hfin := Lib.hid hfin
    replace hP := Lib.hid hP
    replace hBW := Lib.hid hBW
    replace h3 := Lib.hid h3
    clear hsz
    go_enter Tryz.func16, Tryz.ntmps16
    go_upto_region 1 with fail
    rw [hW.out]
    go_wp2_with fail
    exact hfin.out
end Go.Proofs.YtgnoikfmhncbmaaGreatDoor
