/- Walks: the reference's Fits; letters and names. -/
import Derived.Test.YtpjbcadelmjmfaaGreatDoorR6
namespace Go.Proofs.YtpjbcadelmjmfaaGreatDoor
open Go.RowKit Go.Lib

set_option maxHeartbeats 1000000 in
theorem rfits_any (ct : Nat) (cn : Bool) (sc : Int) (dv : RV) (ty : Nat) (nl : Bool) (n : Int) (tx : ByteArray) (b : Bool) (hs : tx.size ≤ 9223372036854775807) (w : World) :
    Calls Tryz.prog 38 #[.agg #[.int .i64 (ct : Int), .bool cn, .int .i64 sc, .int .i64 (dv.ty : Int), .bool dv.nl, .int .i64 dv.n, .string dv.tx, .bool dv.b], .agg #[.int .i64 (ty : Int), .bool nl, .int .i64 n, .string tx, .bool b]] w (RPost w (.int .i64 (fitsP ct cn ⟨ty, nl, n, tx, b⟩ : Nat))) := by
  obtain ⟨W0, hW0⟩ : ∃ W, W = w.alloc (.cells #[.int .i64 (ct : Int), .bool cn, .int .i64 sc, .int .i64 (dv.ty : Int), .bool dv.nl, .int .i64 dv.n, .string dv.tx, .bool dv.b] 96) := ⟨_, rfl⟩
  obtain ⟨W, hW⟩ : ∃ W, W = W0.alloc (.cells #[.int .i64 (ty : Int), .bool nl, .int .i64 n, .string tx, .bool b] 54) := ⟨_, rfl⟩
  have hz0 : W0.heap.size = w.heap.size + 1 := by rw [hW0]; simp
  have hC : Has W w.heap.size [.int .i64 (ct : Int), .bool cn, .int .i64 sc, .int .i64 (dv.ty : Int), .bool dv.nl, .int .i64 dv.n, .string dv.tx, .bool dv.b] 96 := by
    rw [hW, hW0]; exact (Has.new w _ 96).alloc _
  have hV : Has W (w.heap.size + 1) [.int .i64 (ty : Int), .bool nl, .int .i64 n, .string tx, .bool b] 54 := by
    have := Has.new W0 [.int .i64 (ty : Int), .bool nl, .int .i64 n, .string tx, .bool b] 54
    rw [hz0] at this
    rw [hW]; exact this
  have hB : Below w.heap.size w W := by rw [hW, hW0]; exact ((Below.refl _ _).alloc (Nat.le_refl _) _).alloc (by simp) _
  have c0 := hC.cell (o := 0) rfl
  have v0 := hV.cell (o := 0) rfl
  have v1 := hV.cell (o := 1) rfl
  have v2 := hV.cell (o := 2) rfl
  have v3 := hV.cell (o := 3) rfl
  have v4 := hV.cell (o := 4) rfl
  have c1 := hC.cell (o := 1) rfl
  have hf : ∀ k : Nat, fitsP ct cn ⟨ty, nl, n, tx, b⟩ = k → ∀ w', Below W.heap.size W w' → RPost w (.int .i64 (fitsP ct cn ⟨ty, nl, n, tx, b⟩ : Nat)) (.returned (.int .i64 (k : Int))) w' := by
    intro k hk w' hb
    rw [hk]
    exact ⟨rfl, hB.trans (hb.mono hB.size)⟩
  have hform := rform_any ty nl n tx b hs W
  have hd : fitsP ct cn ⟨ty, nl, n, tx, b⟩ = if ty ≠ ct ∨ (nl = true ∧ cn = false) then 16 else formP ⟨ty, nl, n, tx, b⟩ := rfl
  generalize RPost w (.int .i64 (fitsP ct cn ⟨ty, nl, n, tx, b⟩ : Nat)) = post at *
  clear hC hV hB hz0
  replace hW := Lib.hid hW
  replace hW0 := Lib.hid hW0
  replace hf := Lib.hid hf
  replace hform := Lib.hid hform
  by_cases h1 : ty = ct
  · have hx : ((ty : Int) != (ct : Int)) = false := by rw [bne_nat]; simp [h1]
    by_cases h2 : nl = true ∧ cn = false
    · rw [if_pos (.inr h2)] at hd
      obtain ⟨rfl, rfl⟩ := h2
      have hg := Lib.hid (hf.out 16 hd W (Below.refl _ _))
      replace hd := Lib.hid hd
      replace h1 := Lib.hid h1
      clear hf hform
      go_enter Tryz.func38, Tryz.ntmps38
      go_upto_region 1 with fail
      rw [← hW0.out, ← hW.out]
      go_wp2_with fail
      first | exact hg.out | (go_ret; exact hg.out)
    · rw [if_neg (by rintro (h | h); exact h h1; exact h2 h)] at hd
      have hg := fun w' hb => hf.out _ hd w' hb
      replace hg := Lib.hid hg
      generalize formP ⟨ty, nl, n, tx, b⟩ = k at *
      replace hd := Lib.hid hd
      replace h1 := Lib.hid h1
      clear hf
      have key : nl = false ∨ (nl = true ∧ cn = true) := by cases nl <;> cases cn <;> simp_all
      rcases key with rfl | ⟨rfl, rfl⟩
      all_goals
        clear h2
        go_enter Tryz.func38, Tryz.ntmps38
        go_upto_region 1 with fail
        rw [← hW0.out, ← hW.out]
        go_wp2_with (go_at_call 27; refine hform.out.mono ?_; rintro e w1 ⟨rfl, hb1⟩)
        have hgo := hg.out _ hb1
        first | exact hgo | (go_ret; exact hgo)
  · rw [if_pos (.inl h1)] at hd
    have hx : ((ty : Int) != (ct : Int)) = true := by rw [bne_nat]; simp [h1]
    have hg := Lib.hid (hf.out 16 hd W (Below.refl _ _))
    replace hd := Lib.hid hd
    replace h1 := Lib.hid h1
    clear hf hform
    go_enter Tryz.func38, Tryz.ntmps38
    go_upto_region 1 with fail
    rw [← hW0.out, ← hW.out]
    go_wp2_with fail
    first | exact hg.out | (go_ret; exact hg.out)

/-! ### names of one letter -/
def LetterN (c : Nat) : Prop := (65 ≤ c ∧ c ≤ 90) ∨ (97 ≤ c ∧ c ≤ 122)
theorem letter_yes (c : Nat) (h : LetterN c) (w : World) : Calls Tryz.prog 110 #[.int .u8 (c : Int)] w fun e w' => e = .returned (.bool true) ∧ w = w' := by
  rcases h with ⟨h1, h2⟩ | ⟨h1, h2⟩
  · have i1 : (c : Int) ≥ 65 := by omega
    have i2 : (c : Int) ≤ 90 := by omega
    go_enter Tryz.func110, Tryz.ntmps110
    go_wp2_with fail
    go_ret
    exact ⟨rfl, rfl⟩
  · have i1 : (c : Int) ≥ 65 := by omega
    have i2 : ¬ (c : Int) ≤ 90 := by omega
    have i3 : (c : Int) ≥ 97 := by omega
    have i4 : (c : Int) ≤ 122 := by omega
    go_enter Tryz.func110, Tryz.ntmps110
    go_wp2_with fail
    go_ret
    exact ⟨rfl, rfl⟩
theorem letter_no (w : World) : Calls Tryz.prog 110 #[.int .u8 57] w fun e w' => e = .returned (.bool false) ∧ w = w' := by
  go_enter Tryz.func110, Tryz.ntmps110
  go_wp2_with fail
  go_ret
  exact ⟨rfl, rfl⟩
/-- A string of one letter. -/
def One (s : ByteArray) (c : Nat) : Prop := LetterN c ∧ ∃ b : UInt8, b.toNat = c ∧ s = ⟨#[b]⟩
theorem One.facts {s : ByteArray} {c : Nat} (h : One s c) : s.size = 1 ∧ (∀ h : 0 < s.size, (s[0]'h).toNat = c) ∧ ∃ b, s.toList = [b] := by
  obtain ⟨_, b, hb, rfl⟩ := h
  exact ⟨rfl, fun _ => hb, b, by rw [ByteArray.toList_eq]⟩
set_option maxHeartbeats 1000000 in
theorem name_one (s : ByteArray) (c : Nat) (h : One s c) (w : World) : Calls Tryz.prog 83 #[.string s] w fun e w' => e = .returned (.bool true) ∧ w = w' := by
  obtain ⟨hz, hc, b, hb⟩ := h.facts
  have hl := fun w => letter_yes c h.1 w
  replace hl := Lib.hid hl
  go_enter Tryz.func83, Tryz.ntmps83
  go_wp2_with (go_at_call 110; refine (hl.out _).mono ?_; rintro e w1 ⟨rfl, rfl⟩)
  go_loop [19] (fun i => ∃ k : Nat, k ≤ 1 ∧ i = .int .i64 k) (fun i => 1 - (intOf i).toNat)
  case atStart => exact ⟨0, by omega, rfl⟩
  case round =>
    obtain ⟨k, hk, rfl⟩ := hrel
    by_cases h0 : k < 1
    · obtain rfl : k = 0 := by omega
      go_wp2_with (go_at_call 110; refine (hl.out _).mono ?_; rintro e w1 ⟨rfl, rfl⟩)
      go_round
      case rel => exact ⟨1, by omega, by go_num⟩
      case measure => simp [intOf]
    · obtain rfl : k = 1 := by omega
      go_wp2_with fail
      go_ret
      exact ⟨rfl, rfl⟩
theorem name_nine (w : World) : Calls Tryz.prog 83 #[.string ⟨#[57]⟩] w fun e w' => e = .returned (.bool false) ∧ w = w' := by
  have hl := letter_no w
  replace hl := Lib.hid hl
  obtain ⟨s, hs⟩ : ∃ s : ByteArray, s = ⟨#[57]⟩ := ⟨_, rfl⟩
  have hz : s.size = 1 := by rw [hs]; rfl
  have hc : ∀ h : 0 < s.size, (s[0]'h).toNat = 57 := by rw [hs]; intro _; rfl
  have hb : s.toList = [57] := by rw [hs, ByteArray.toList_eq]
  rw [← hs]
  replace hs := Lib.hid hs
  go_enter Tryz.func83, Tryz.ntmps83
  go_wp2_with (go_at_call 110; refine hl.out.mono ?_; rintro e w1 ⟨rfl, rfl⟩)
  go_ret
  exact ⟨rfl, rfl⟩
set_option maxHeartbeats 2000000 in
theorem reserved_one (s : ByteArray) (b : UInt8) (hb : s.toList = [b]) (w : World) : Calls Tryz.prog 84 #[.string s] w fun e w' => e = .returned (.bool false) ∧ w = w' := by
  go_enter Tryz.func84, Tryz.ntmps84
  go_wp2_with fail
  go_ret
  exact ⟨rfl, rfl⟩
theorem named_one (s : ByteArray) (c : Nat) (h : One s c) (w : World) : Calls Tryz.prog 62 #[.string s] w fun e w' => e = .returned (.bool true) ∧ w = w' := by
  obtain ⟨_, _, b, hb⟩ := h.facts
  have h1 := name_one s c h w
  have h2 := reserved_one s b hb w
  replace h1 := Lib.hid h1
  replace h2 := Lib.hid h2
  replace hb := Lib.hid hb
  go_enter Tryz.func62, Tryz.ntmps62
  go_wp2_with (first | (go_at_call 83; refine h1.out.mono ?_; rintro e w1 ⟨rfl, rfl⟩) | (go_at_call 84; refine h2.out.mono ?_; rintro e w1 ⟨rfl, rfl⟩))
  go_ret
  exact ⟨rfl, rfl⟩
theorem named_nine (w : World) : Calls Tryz.prog 62 #[.string ⟨#[57]⟩] w fun e w' => e = .returned (.bool false) ∧ w = w' := by
  have h1 := name_nine w
  replace h1 := Lib.hid h1
  go_enter Tryz.func62, Tryz.ntmps62
  go_wp2_with (go_at_call 83; refine h1.out.mono ?_; rintro e w1 ⟨rfl, rfl⟩)
  go_ret
  exact ⟨rfl, rfl⟩
end Go.Proofs.YtpjbcadelmjmfaaGreatDoor
