/- Walks of the reference's Form and Fits. -/
import Derived.Test.YtgnoikfmhncbmaaGreatDoorRu
import Derived.Test.YtgnoikfmhncbmaaGreatDoorR2
set_option linter.unusedVariables false
set_option linter.unusedSimpArgs false
namespace Go.Proofs.YtgnoikfmhncbmaaGreatDoor
open Go.RowKit Go.Lib

def g1B (v : RV) : Bool := decide ((v.ty : Int) < 1) || decide ((3 : Int) < (v.ty : Int)) || ((v.n != 0) && (v.nl || ((v.ty : Int) != 1))) || (!v.tx.data.toList.isEmpty && (v.nl || ((v.ty : Int) != 2))) || (v.b && (v.nl || ((v.ty : Int) != 3)))
theorem form_g (v : RV) : formP v = if g1B v then 16 else if f3B v then 16 else if 200 < v.tx.size then 9 else 0 := by
  have h3 := f3_iff v
  have h1 : g1B v = true ↔ (v.ty < 1 ∨ 3 < v.ty ∨ (v.n ≠ 0 ∧ (v.nl = true ∨ v.ty ≠ 1)) ∨ (v.tx.data.toList ≠ [] ∧ (v.nl = true ∨ v.ty ≠ 2)) ∨ (v.b = true ∧ (v.nl = true ∨ v.ty ≠ 3))) := by
    obtain ⟨ty, nl, n, tx, b⟩ := v
    unfold g1B
    simp only
    have e1 : ((ty : Int) != 1) = decide (ty ≠ 1) := bne_nat ty 1
    have e2 : ((ty : Int) != 2) = decide (ty ≠ 2) := bne_nat ty 2
    have e3 : ((ty : Int) != 3) = decide (ty ≠ 3) := bne_nat ty 3
    have e4 : decide ((ty : Int) < 1) = decide (ty < 1) := by rw [Bool.eq_iff_iff]; simp; omega
    have e5 : decide ((3 : Int) < (ty : Int)) = decide (3 < ty) := by rw [Bool.eq_iff_iff]; simp; omega
    have el : (!tx.data.toList.isEmpty) = decide (tx.data.toList ≠ []) := by cases tx.data.toList <;> simp
    rw [e1, e2, e3, e4, e5, el]
    simp only [Bool.or_eq_true, Bool.and_eq_true, decide_eq_true_eq, bne_iff_ne, or_assoc]
  unfold formP
  by_cases c1 : g1B v = true
  · rw [if_pos c1, if_pos (h1.1 c1)]
  · rw [if_neg c1, if_neg (fun e => c1 (h1.2 e))]
    by_cases c3 : f3B v = true
    · rw [if_pos c3, if_pos (h3.1 c3)]
    · rw [if_neg c3, if_neg (fun e => c3 (h3.2 e))]

set_option maxHeartbeats 4000000 in
set_option maxRecDepth 100000 in
theorem rform_any (ty : Nat) (nl : Bool) (n : Int) (tx : ByteArray) (b : Bool) (hs : tx.size ≤ 9223372036854775807) (w : World) :
    Calls Tryz.prog 75 #[.agg #[.int .i64 (ty : Int), .bool nl, .int .i64 n, .string tx, .bool b]] w (RPost w (.int .i64 (formP ⟨ty, nl, n, tx, b⟩ : Nat))) := by
  obtain ⟨W, hW⟩ : ∃ W, W = w.alloc (.cells #[.int .i64 (ty : Int), .bool nl, .int .i64 n, .string tx, .bool b] 33) := ⟨_, rfl⟩
  have hV : Has W w.heap.size [.int .i64 (ty : Int), .bool nl, .int .i64 n, .string tx, .bool b] 33 := by rw [hW]; exact Has.new w _ _
  have hB : Below w.heap.size w W := by rw [hW]; exact (Below.refl _ _).alloc (Nat.le_refl _) _
  obtain ⟨xn, hxn⟩ : ∃ x, x = nl := ⟨_, rfl⟩
  obtain ⟨xb, hxb⟩ : ∃ x, x = b := ⟨_, rfl⟩
  have v0 := hV.cell (o := 0) rfl
  have v1 : W.cell? ⟨w.heap.size, 1, none⟩ = some (.bool xn) := by rw [hxn]; exact hV.cell (o := 1) rfl
  have v2 := hV.cell (o := 2) rfl
  have v3 := hV.cell (o := 3) rfl
  have v4 : W.cell? ⟨w.heap.size, 4, none⟩ = some (.bool xb) := by rw [hxb]; exact hV.cell (o := 4) rfl
  have hfb := form_g ⟨ty, nl, n, tx, b⟩
  obtain ⟨b1, h1⟩ : ∃ x, x = g1B ⟨ty, nl, n, tx, b⟩ := ⟨_, rfl⟩
  obtain ⟨b3, h3⟩ : ∃ x, x = f3B ⟨ty, nl, n, tx, b⟩ := ⟨_, rfl⟩
  rw [← h1, ← h3] at hfb
  have hfin : ∀ (k : Nat), k = (if b1 = true then 16 else if b3 = true then 16 else if 200 < tx.size then 9 else 0) →
      RPost w (.int .i64 (formP ⟨ty, nl, n, tx, b⟩ : Nat)) (.returned (.int .i64 (k : Int))) W := by
    intro k hk
    rw [hk, hfb]
    exact ⟨rfl, hB⟩
  generalize RPost w (.int .i64 (formP ⟨ty, nl, n, tx, b⟩ : Nat)) = post at *
  unfold g1B at h1
  unfold f3B at h3
  simp only at h1 h3
  rw [← hxn, ← hxb] at h1
  have hvs := utf8_any tx hs W
  obtain ⟨vd, hvd⟩ : ∃ x, validD tx.data.toList = x := ⟨_, rfl⟩
  rw [hvd] at h3 hvs
  clear hfb hV hB
  replace hW := Lib.hid hW
  replace hfin := Lib.hid hfin
  replace hxn := Lib.hid hxn
  replace hxb := Lib.hid hxb
  replace hvd := Lib.hid hvd
  replace h1 := Lib.hid h1
  replace h3 := Lib.hid h3
  replace hvs := Lib.hid hvs
  go_enter Tryz.func75, Tryz.ntmps75
  go_upto_region 1 with fail
  rw [← hW.out]
  go_cut [51] (fun p wx => p = .bool b1 ∧ W = wx)
  case first =>
    obtain ⟨x1, g1⟩ : ∃ x, ((ty : Int) != 1) = x := ⟨_, rfl⟩
    obtain ⟨x2, g2⟩ : ∃ x, ((ty : Int) != 2) = x := ⟨_, rfl⟩
    obtain ⟨x3, g3⟩ : ∃ x, ((ty : Int) != 3) = x := ⟨_, rfl⟩
    obtain ⟨x4, g4⟩ : ∃ x, (n != 0) = x := ⟨_, rfl⟩
    go_wp2_with fail
    all_goals (go_meet; exact ⟨congrArg Value.bool (by rw [h1.out, g1, g2, g3, g4, ← ByteArray.toList_eq]; simp [*]), rfl⟩)
  case rest =>
    obtain ⟨rfl, rfl⟩ := hcut
    cases b1
    case true =>
      have hf := Lib.hid (hfin.out 16 rfl)
      clear hfin
      go_wp2_with fail
      first | exact hf.out | (go_ret; exact hf.out)
    case false =>
      go_upto_region 3 with fail
      go_cut [65] (fun p wx => p = .bool b3 ∧ W = wx)
      case first =>
        have e1 : decide (n ≥ 2147483648) = decide (2147483647 < n) := by rw [Bool.eq_iff_iff]; simp; omega
        go_wp2_with (go_at_call 92; refine hvs.out.mono ?_; rintro e w1 ⟨rfl, rfl⟩)
        all_goals (go_meet; exact ⟨congrArg Value.bool (by refine Eq.trans ?_ h3.out.symm; rw [← e1]; try simp [*]), rfl⟩)
      case rest =>
        obtain ⟨rfl, rfl⟩ := hcut
        cases b3
        case true =>
          have hf := Lib.hid (hfin.out 16 rfl)
          clear hfin
          go_wp2_with fail
          first | exact hf.out | (go_ret; exact hf.out)
        case false =>
          by_cases hl : 200 < tx.size
          · have hf := Lib.hid (hfin.out 9 (by simp [hl]))
            have d1 : decide ((200 : Int) < (tx.size : Int)) = true := decide_eq_true (by omega)
            have d2 : decide (200 < tx.size) = true := decide_eq_true hl
            clear hfin
            go_wp2_with fail
            first | exact hf.out | (go_ret; exact hf.out)
          · have hf := Lib.hid (hfin.out 0 (by simp [hl]))
            have d1 : decide ((200 : Int) < (tx.size : Int)) = false := decide_eq_false (by omega)
            have d2 : decide (200 < tx.size) = false := decide_eq_false hl
            clear hfin
            go_wp2_with fail
            first | exact hf.out | (go_ret; exact hf.out)
end Go.Proofs.YtgnoikfmhncbmaaGreatDoor
