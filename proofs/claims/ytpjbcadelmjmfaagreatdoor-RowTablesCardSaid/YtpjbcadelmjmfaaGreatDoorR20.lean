/- Tables that are not valid: Table.Valid, row.Valid, Encode and Decode refuse them. -/
import Derived.Test.YtpjbcadelmjmfaaGreatDoorR16
namespace Go.Proofs.YtpjbcadelmjmfaaGreatDoor
open Go.RowKit Go.Lib

set_option maxHeartbeats 2000000 in
theorem tabvalid_nine (ver : Int) (ca : Option Addr) (n cc : Nat) (w : World) :
    Calls Tryz.prog 40 #[.agg #[.string ⟨#[57]⟩, .int .i64 ver, .slice ca n cc, .slice none 0 0, .int .u64 0, .int .u64 0]] w (RPost w (.int .i64 (15 : Nat))) := by
  have hT := Has.new w [.string ⟨#[57]⟩, .int .i64 ver, .slice ca n cc, .slice none 0 0, .int .u64 0, .int .u64 0] 32
  have t0 := hT.cell (o := 0) rfl
  have hB : Below w.heap.size w (w.alloc (.cells #[.string ⟨#[57]⟩, .int .i64 ver, .slice ca n cc, .slice none 0 0, .int .u64 0, .int .u64 0] 32)) := (Below.refl _ _).alloc (Nat.le_refl _) _
  have hn := fun w => named_nine w
  obtain ⟨s, hs⟩ : ∃ s : ByteArray, s = ⟨#[57]⟩ := ⟨_, rfl⟩
  rw [← hs] at hn t0 hB ⊢
  replace hs := Lib.hid hs
  replace hn := Lib.hid hn
  replace hB := Lib.hid hB
  clear hT
  go_enter Tryz.func40, Tryz.ntmps40
  go_wp2_with (go_at_call 62; refine (hn.out _).mono ?_; rintro e w1 ⟨rfl, rfl⟩)
  go_ret
  exact ⟨rfl, hB.out⟩
set_option maxHeartbeats 2000000 in
theorem tabvalid_nil (tn : ByteArray) (x0 : Nat) (hn : One tn x0) (ver : Int) (w : World) :
    Calls Tryz.prog 40 #[.agg #[.string tn, .int .i64 ver, .slice none 0 0, .slice none 0 0, .int .u64 0, .int .u64 0]] w (RPost w (.int .i64 (9 : Nat))) := by
  have hT := Has.new w [.string tn, .int .i64 ver, .slice none 0 0, .slice none 0 0, .int .u64 0, .int .u64 0] 32
  have t0 := hT.cell (o := 0) rfl
  have t2 := hT.cell (o := 2) rfl
  have hB : Below w.heap.size w (w.alloc (.cells #[.string tn, .int .i64 ver, .slice none 0 0, .slice none 0 0, .int .u64 0, .int .u64 0] 32)) := (Below.refl _ _).alloc (Nat.le_refl _) _
  have hn := fun w => named_one tn x0 hn w
  replace hn := Lib.hid hn
  replace hB := Lib.hid hB
  clear hT
  go_enter Tryz.func40, Tryz.ntmps40
  go_wp2_with (go_at_call 62; refine (hn.out _).mono ?_; rintro e w1 ⟨rfl, rfl⟩)
  go_loop [23] (fun i => i = .int .i64 0) (fun _ => 0)
  case atStart => rfl
  case round =>
    subst hrel
    go_wp2_with fail
    go_ret
    exact ⟨rfl, hB.out⟩
section
variable {w : World} {tn : ByteArray} {ver : Int} {n k : Nat} {ca : Option Addr} {cc m : Nat} {ra : Option Addr} {rc : Nat}
/-- What is known of a table that is refused, in every later world. -/
def Refused (w : World) (tn : ByteArray) (ver : Int) (ca : Option Addr) (n cc : Nat) : Prop := ∃ k : Nat, k ≠ 0 ∧ ∀ w', Below w.heap.size w w' → Calls Tryz.prog 40 #[.agg #[.string tn, .int .i64 ver, .slice ca n cc, .slice none 0 0, .int .u64 0, .int .u64 0]] w' (RPost w' (.int .i64 (k : Nat)))
theorem Refused.later {w1 : World} (h : Refused w tn ver ca n cc) (hb : Below w.heap.size w w1) : Refused w1 tn ver ca n cc := by
  obtain ⟨k, h0, h1⟩ := h
  exact ⟨k, h0, fun w' hb' => h1 w' (hb.trans (hb'.mono hb.size))⟩
set_option maxHeartbeats 2000000 in
theorem rowvalid_bad (h : Refused w tn ver ca n cc) : Calls Tryz.prog 20 #[.agg #[.string tn, .int .i64 ver, .slice ca n cc, .slice none 0 0, .int .u64 0, .int .u64 0], .slice ra m rc] w (RPost w (.int .i64 1)) := by
  obtain ⟨k, h0, h1⟩ := h
  obtain ⟨W, hW⟩ : ∃ W, W = w.alloc (.cells #[.string tn, .int .i64 ver, .slice ca n cc, .slice none 0 0, .int .u64 0, .int .u64 0] 32) := ⟨_, rfl⟩
  have hT : Has W w.heap.size [.string tn, .int .i64 ver, .slice ca n cc, .slice none 0 0, .int .u64 0, .int .u64 0] 32 := by rw [hW]; exact Has.new w _ _
  have hBW : Below w.heap.size w W := by rw [hW]; exact (Below.refl _ _).alloc (Nat.le_refl _) _
  have hv := h1 W hBW
  have t0 := hT.cell (o := 0) rfl
  have t1 := hT.cell (o := 1) rfl
  have t2 := hT.cell (o := 2) rfl
  have t3 := hT.cell (o := 3) rfl
  have t4 := hT.cell (o := 4) rfl
  have t5 := hT.cell (o := 5) rfl
  have hkI : ((k : Int) != 0) = true := by simp [h0]
  replace h0 := Lib.hid h0
  replace hW := Lib.hid hW
  replace hv := Lib.hid hv
  replace hBW := Lib.hid hBW
  clear hT h1
  go_enter Tryz.func20, Tryz.ntmps20
  go_upto_region 1 with fail
  rw [← hW.out]
  go_wp2_with fail
  refine hv.out.mono ?_
  rintro e w1 ⟨rfl, hb1⟩
  have hf := hBW.out.trans (hb1.mono hBW.out.size)
  replace hf := Lib.hid hf
  clear t0 t1 t2 t3 t4 t5 hb1
  go_wp2_with fail
  go_ret
  exact ⟨rfl, hf.out⟩
set_option maxHeartbeats 2000000 in
theorem rowenc_refused (h : Refused w tn ver ca n cc) : Calls Tryz.prog 16 #[.agg #[.string tn, .int .i64 ver, .slice ca n cc, .slice none 0 0, .int .u64 0, .int .u64 0], .slice ra m rc] w (RPost w (.tuple #[.slice none 0 0, .int .i64 1])) := by
  obtain ⟨W, hW⟩ : ∃ W, W = w.alloc (.cells #[.string tn, .int .i64 ver, .slice ca n cc, .slice none 0 0, .int .u64 0, .int .u64 0] 32) := ⟨_, rfl⟩
  have hT : Has W w.heap.size [.string tn, .int .i64 ver, .slice ca n cc, .slice none 0 0, .int .u64 0, .int .u64 0] 32 := by rw [hW]; exact Has.new w _ _
  have hBW : Below w.heap.size w W := by rw [hW]; exact (Below.refl _ _).alloc (Nat.le_refl _) _
  have hv := rowvalid_bad (ra := ra) (m := m) (rc := rc) (h.later hBW)
  have t0 := hT.cell (o := 0) rfl
  have t1 := hT.cell (o := 1) rfl
  have t2 := hT.cell (o := 2) rfl
  have t3 := hT.cell (o := 3) rfl
  have t4 := hT.cell (o := 4) rfl
  have t5 := hT.cell (o := 5) rfl
  replace hW := Lib.hid hW
  replace hv := Lib.hid hv
  replace hBW := Lib.hid hBW
  replace h := Lib.hid h
  clear hT
  go_enter Tryz.func16, Tryz.ntmps16
  go_upto_region 1 with fail
  rw [← hW.out]
  go_wp2_with fail
  refine hv.out.mono ?_
  rintro e w1 ⟨rfl, hb1⟩
  have hf := hBW.out.trans (hb1.mono hBW.out.size)
  replace hf := Lib.hid hf
  clear t0 t1 t2 t3 t4 t5 hb1
  go_wp2_with fail
  go_ret2
  exact ⟨rfl, hf.out⟩
set_option maxHeartbeats 2000000 in
theorem decode_refused (h : Refused w tn ver ca n cc) : Calls Tryz.prog 31 #[.agg #[.string tn, .int .i64 ver, .slice ca n cc, .slice none 0 0, .int .u64 0, .int .u64 0], .slice ra m rc] w (RPost w (.tuple #[.slice none 0 0, .int .i64 1])) := by
  obtain ⟨k, h0, h1⟩ := h
  obtain ⟨W, hW⟩ : ∃ W, W = w.alloc (.cells #[.string tn, .int .i64 ver, .slice ca n cc, .slice none 0 0, .int .u64 0, .int .u64 0] 32) := ⟨_, rfl⟩
  have hT : Has W w.heap.size [.string tn, .int .i64 ver, .slice ca n cc, .slice none 0 0, .int .u64 0, .int .u64 0] 32 := by rw [hW]; exact Has.new w _ _
  have hBW : Below w.heap.size w W := by rw [hW]; exact (Below.refl _ _).alloc (Nat.le_refl _) _
  have hv := h1 W hBW
  have t0 := hT.cell (o := 0) rfl
  have t1 := hT.cell (o := 1) rfl
  have t2 := hT.cell (o := 2) rfl
  have t3 := hT.cell (o := 3) rfl
  have t4 := hT.cell (o := 4) rfl
  have t5 := hT.cell (o := 5) rfl
  have hkI : ((k : Int) != 0) = true := by simp [h0]
  replace h0 := Lib.hid h0
  replace hW := Lib.hid hW
  replace hv := Lib.hid hv
  replace hBW := Lib.hid hBW
  clear hT h1
  go_enter Tryz.func31, Tryz.ntmps31
  go_upto_region 1 with fail
  rw [← hW.out]
  go_wp2_with fail
  refine hv.out.mono ?_
  rintro e w1 ⟨rfl, hb1⟩
  have hf := hBW.out.trans (hb1.mono hBW.out.size)
  replace hf := Lib.hid hf
  clear t0 t1 t2 t3 t4 t5 hb1
  go_wp2_with fail
  go_ret2
  exact ⟨rfl, hf.out⟩
end
end Go.Proofs.YtpjbcadelmjmfaaGreatDoor
