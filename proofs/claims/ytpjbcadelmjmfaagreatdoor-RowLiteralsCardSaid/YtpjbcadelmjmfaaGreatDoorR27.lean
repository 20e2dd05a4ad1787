/- Walks: Text, and the reference's Number and Text. -/
import Derived.Test.YtpjbcadelmjmfaaGreatDoorR17
set_option linter.unusedVariables false
namespace Go.Proofs.YtpjbcadelmjmfaaGreatDoor
open Go.RowKit Go.Lib

def ba (l : List UInt8) : ByteArray := ⟨l.toArray⟩
theorem ba_data (l : List UInt8) : (ba l).data.toList = l := rfl
theorem ba_of (a : ByteArray) : ba a.data.toList = a := by cases a; simp [ba]
theorem ba_eq {a b : ByteArray} (h : a.data.toList = b.data.toList) : a = b := by rw [← ba_of a, ← ba_of b, h]
theorem ba_app (a b : List UInt8) : ba a ++ ba b = ba (a ++ b) := by
  apply ba_eq
  rw [ByteArray.data_append]
  simp [ba]
theorem ba_dat (a b : List UInt8) : (⟨(ba a).data ++ (ba b).data⟩ : ByteArray) = ba (a ++ b) := by
  apply ba_eq
  simp [ba]
set_option maxHeartbeats 4000000 in
theorem text_any (ta : Nat) (na : Bool) (ia : Int) (xa : ByteArray) (bv : Bool) (hsa : xa.size ≤ 9223372036854775807) (w : World) (hE : Env w) :
    Calls Tryz.prog 23 #[.agg #[.int .u8 (ta : Int), .bool na, .int .i64 ia, .string xa, .bool bv]] w (RPost w (.string (ba (textP ⟨ta, na, ia, xa, bv⟩)))) := by
  obtain ⟨W, hW⟩ : ∃ W, W = w.alloc (.cells #[.int .u8 (ta : Int), .bool na, .int .i64 ia, .string xa, .bool bv] 50) := ⟨_, rfl⟩
  have hA : Has W w.heap.size [.int .u8 (ta : Int), .bool na, .int .i64 ia, .string xa, .bool bv] 50 := by rw [hW]; exact Has.new w _ 50
  have hBW : Below w.heap.size w W := by rw [hW]; exact (Below.refl _ _).alloc (Nat.le_refl _) _
  have hEW := hE.below hBW
  have hva := valid1_any ta na ia xa bv hsa W hEW
  have hfin : ∀ x, textP ⟨ta, na, ia, xa, bv⟩ = x → ∀ w', Below W.heap.size W w' → RPost w (.string (ba (textP ⟨ta, na, ia, xa, bv⟩))) (.returned (.string (ba x))) w' := by
    intro x h1 w' hb
    rw [h1]
    exact ⟨rfl, hBW.trans (hb.mono hBW.size)⟩
  have hX : textP ⟨ta, na, ia, xa, bv⟩ = if formP ⟨ta, na, ia, xa, bv⟩ ≠ 0 then [] else if na then nullL else if ta = 1 then itoa ia else if ta = 2 then 39 :: dbl xa.data.toList ++ [39] else if bv then trueL else falseL := rfl
  generalize textP ⟨ta, na, ia, xa, bv⟩ = tp at *
  generalize RPost w (.string (ba tp)) = post at *
  have kA := fun w' (hb : Below W.heap.size W w') => hA.only (Only.of_below hb) (Nat.not_le.2 hA.lt)
  have a0 := hA.cell (o := 0) rfl
  have a1 := hA.cell (o := 1) rfl
  have a2 := hA.cell (o := 2) rfl
  have a3 := hA.cell (o := 3) rfl
  have a4 := hA.cell (o := 4) rfl
  replace hW := Lib.hid hW
  replace hva := Lib.hid hva
  replace hfin := Lib.hid hfin
  replace kA := Lib.hid kA
  replace hBW := Lib.hid hBW
  replace hEW := Lib.hid hEW
  clear hA hE
  by_cases hf : formP ⟨ta, na, ia, xa, bv⟩ = 0
  · rw [decide_eq_true hf] at hva
    rw [if_neg (by simpa using hf)] at hX
    obtain ⟨⟨t1, t2⟩, n1, x1, c1, ⟨n2, n3⟩, _, sz⟩ := form_parts hf
    simp only at t1 t2 n1 x1 c1 n2 n3 sz
    replace hX := Lib.hid hX
    replace hf := Lib.hid hf
    replace n1 := Lib.hid n1
    replace x1 := Lib.hid x1
    replace c1 := Lib.hid c1
    go_enter Tryz.func23, Tryz.ntmps23
    go_upto_region 1 with fail
    rw [← hW.out]
    go_wp2_with fail
    refine hva.out.mono ?_
    rintro e w1 ⟨rfl, hb1⟩
    clear a0 a1 a2 a3 a4 hva
    have ka := kA.out w1 hb1
    have a0 := ka.cell (o := 0) rfl
    have a1 := ka.cell (o := 1) rfl
    have a2 := ka.cell (o := 2) rfl
    have a3 := ka.cell (o := 3) rfl
    have a4 := ka.cell (o := 4) rfl
    clear ka
    cases na with
    | true =>
      have hg := hfin.out nullL (by rw [hX.out]; rfl) w1 hb1
      replace hg := Lib.hid hg
      clear hb1
      go_wp2_with fail
      first | exact hg.out | (go_ret; exact hg.out)
    | false =>
      obtain rfl | rfl | rfl : ta = 1 ∨ ta = 2 ∨ ta = 3 := by omega
      · have hg := fun w2 hb2 => hfin.out (itoa ia) (by rw [hX.out]; rfl) w2 hb2
        have hc := itoa_any ia (by omega) (by omega) w1 (hEW.out.below hb1)
        replace hg := Lib.hid hg
        replace hc := Lib.hid hc
        replace hb1 := Lib.hid hb1
        go_wp2_with fail
        refine hc.out.mono ?_
        rintro e w2 ⟨rfl, hb12⟩
        have hg2 := hg.out w2 (hb1.out.trans (hb12.mono hb1.out.size))
        replace hg2 := Lib.hid hg2
        clear hb12
        go_wp2_with fail
        first | exact hg2.out | (go_ret; exact hg2.out)
      · have hg := fun w2 hb2 => hfin.out (39 :: dbl xa.data.toList ++ [39]) (by rw [hX.out]; rfl) w2 hb2
        have hcl : xa.data.toList.length = xa.size := by simp
        have hcnt := count_le xa.data.toList [39]
        have hr : Calls Tryz.prog 44 #[.string xa, .string ⟨#[39]⟩, .string ⟨#[39, 39]⟩] w1 fun e w'' => e = .returned (.string (ba (dbl xa.data.toList))) ∧ Below w1.heap.size w1 w'' := by
          have h := replall_any xa ⟨#[39]⟩ ⟨#[39, 39]⟩ w1 (hEW.out.below hb1) (by omega) (by decide) (by
            show xa.size + count xa.data.toList [39] * 2 ≤ _
            omega)
          have e : replaceAll xa.data.toList [39] [39, 39] = dbl xa.data.toList := by rw [replaceAll_dbl]
          rw [ba, ← e]
          exact h
        have hdl := dbl_len xa.data.toList
        generalize dbl xa.data.toList = dl at *
        have z1 : (ba dl).size ≤ 400 := by rw [ba, mk_size]; omega
        have z2 : ¬ (((⟨#[39]⟩ : ByteArray).size + (ba dl).size : Nat) : Int) > IntKind.i64.max := by
          show ¬ ((1 + (ba dl).size : Nat) : Int) > 9223372036854775807
          omega
        have z3 : ¬ ((((⟨#[39]⟩ : ByteArray) ++ ba dl).size + (⟨#[39]⟩ : ByteArray).size : Nat) : Int) > IntKind.i64.max := by
          rw [ByteArray.size_append]
          show ¬ ((1 + (ba dl).size + 1 : Nat) : Int) > 9223372036854775807
          omega
        replace hg := Lib.hid hg
        replace hr := Lib.hid hr
        replace hb1 := Lib.hid hb1
        clear hcl hcnt
        go_wp2_with fail
        refine hr.out.mono ?_
        rintro e w2 ⟨rfl, hb12⟩
        have hg2 := hg.out w2 (hb1.out.trans (hb12.mono hb1.out.size))
        have e1 : (⟨#[39]⟩ : ByteArray) ++ ba dl ++ ⟨#[39]⟩ = ba (39 :: dl ++ [39]) := by
          show ba [39] ++ ba dl ++ ba [39] = _
          rw [ba_app, ba_app]; rfl
        rw [← e1] at hg2
        replace hg2 := Lib.hid hg2
        clear hb12
        go_wp2_with fail
        exact hg2.out
      · cases bv
        all_goals
          have hg := hfin.out _ hX.out w1 hb1
          replace hg := Lib.hid hg
          clear hb1
          go_wp2_with fail
          first | exact hg.out | (go_ret; exact hg.out)
  · rw [decide_eq_false hf] at hva
    rw [if_pos (by simpa using hf)] at hX
    have hg := hfin.out [] hX
    replace hX := Lib.hid hX
    replace hf := Lib.hid hf
    replace hg := Lib.hid hg
    go_enter Tryz.func23, Tryz.ntmps23
    go_upto_region 1 with fail
    rw [← hW.out]
    go_wp2_with fail
    refine hva.out.mono ?_
    rintro e w1 ⟨rfl, hb1⟩
    have hg2 := hg.out w1 hb1
    replace hg2 := Lib.hid hg2
    clear hb1
    go_wp2_with fail
    first | exact hg2.out | (go_ret; exact hg2.out)
end Go.Proofs.YtpjbcadelmjmfaaGreatDoor
