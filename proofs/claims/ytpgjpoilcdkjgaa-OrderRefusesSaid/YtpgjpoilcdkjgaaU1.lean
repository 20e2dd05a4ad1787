/- The reference's Valid: it answers as Event.Valid does. -/
import Derived.Test.YtpgjpoilcdkjgaaV1
namespace Go.Proofs.Ytpgjpoilcdkjgaa
open Go.RowKit

def r1B (k : Int) : Bool := k == 1 || k == 2 || k == 3 || k == 4
def r2B (k : Int) : Bool := k == 1 || k == 2 || k == 3
def r3B (k : Int) : Bool := k == 1 || k == 2
def r4B (k t line cl : Int) : Bool := decide (k < 1) || decide (7 < k) || decide (t < 0) || decide (7 < t) || decide (line < 0) || decide (4095 < line) || decide (512 < cl)
def r6B (th ofs va : Bool) (k t off val old : Int) : Bool := (!th && t != 0) || (!ofs && off != 0) || (!va && val != 0) || (k != 2 && old != 0)
def r8B (k line cl : Int) : Bool := (k != 5 && line != 0) || (k != 7 && cl != 0)
def rNB (k n : Int) : Bool := decide ((if k = 6 then (-1 : Int) else 0) ≤ n) && decide (n ≤ if k = 5 ∨ k = 6 then (2147483647 : Int) else 0)
def rvalid (k t off val old line n cl : Int) : Bool := !r4B k t line cl && (!r6B (r1B k) (r2B k) (r3B k) k t off val old && (!r8B k line cl && rNB k n))

theorem rvalid_eq (k t off val old line n : Int) (cl : Nat) : rvalid k t off val old line n cl = validP k t off val old line n cl := by
  rw [Bool.eq_iff_iff]
  unfold rvalid validP kindB plB wdB r4B r6B r8B rNB r1B r2B r3B
  by_cases h1 : k = 1
  · subst h1; simp; omega
  by_cases h2 : k = 2
  · subst h2; simp; omega
  by_cases h3 : k = 3
  · subst h3; simp; omega
  by_cases h4 : k = 4
  · subst h4; simp; omega
  by_cases h5 : k = 5
  · subst h5; simp; omega
  by_cases h6 : k = 6
  · subst h6; simp; omega
  by_cases h7 : k = 7
  · subst h7; simp; omega
  simp [h1, h2, h3, h4, h5, h6, h7]
  omega

set_option maxHeartbeats 4000000 in
set_option maxRecDepth 100000 in
theorem rvalid_any (k t off val old line n cl : Int) (w : World) :
    Calls Try.prog 50 #[.agg #[.int .i64 k, .int .i64 t, .int .u64 off, .int .u64 val, .int .u64 old, .int .i64 line, .int .i64 n, .int .i64 cl]] w (ValPost w (rvalid k t off val old line n cl)) := by
  obtain ⟨W, hW⟩ : ∃ W, W = w.alloc (.cells #[.int .i64 k, .int .i64 t, .int .u64 off, .int .u64 val, .int .u64 old, .int .i64 line, .int .i64 n, .int .i64 cl] 67) := ⟨_, rfl⟩
  have hB : Below w.heap.size w W := by rw [hW]; exact (Below.refl _ _).alloc (Nat.le_refl _) _
  have hE := Has.new w [.int .i64 k, .int .i64 t, .int .u64 off, .int .u64 val, .int .u64 old, .int .i64 line, .int .i64 n, .int .i64 cl] 67
  have hW2 : w.alloc (.cells [.int .i64 k, .int .i64 t, .int .u64 off, .int .u64 val, .int .u64 old, .int .i64 line, .int .i64 n, .int .i64 cl].toArray 67) = W := hW.symm
  rw [hW2] at hE
  have e0 := hE.cell (o := 0) rfl
  have e1 := hE.cell (o := 1) rfl
  have e2 := hE.cell (o := 2) rfl
  have e3 := hE.cell (o := 3) rfl
  have e4 := hE.cell (o := 4) rfl
  have e5 := hE.cell (o := 5) rfl
  have e6 := hE.cell (o := 6) rfl
  have e7 := hE.cell (o := 7) rfl
  clear hE hW2
  obtain ⟨b1, h1⟩ : ∃ b, b = r1B k := ⟨_, rfl⟩
  obtain ⟨b2, h2⟩ : ∃ b, b = r2B k := ⟨_, rfl⟩
  obtain ⟨b3, h3⟩ : ∃ b, b = r3B k := ⟨_, rfl⟩
  obtain ⟨b4, h4⟩ : ∃ b, b = r4B k t line cl := ⟨_, rfl⟩
  obtain ⟨b6, h6⟩ : ∃ b, b = r6B b1 b2 b3 k t off val old := ⟨_, rfl⟩
  obtain ⟨b8, h8⟩ : ∃ b, b = r8B k line cl := ⟨_, rfl⟩
  obtain ⟨bN, hN⟩ : ∃ b, b = rNB k n := ⟨_, rfl⟩
  have hv : rvalid k t off val old line n cl = (!b4 && (!b6 && (!b8 && bN))) := by rw [h4, h6, h8, hN, h1, h2, h3]; rfl
  have hfin : ∀ b, b = (!b4 && (!b6 && (!b8 && bN))) → ValPost w (rvalid k t off val old line n cl) (.returned (.bool b)) W := by
    intro b hb; rw [hv, hb]; exact ⟨rfl, hB⟩
  generalize ValPost w (rvalid k t off val old line n cl) = post at *
  clear hv hB
  replace hfin := Lib.hid hfin
  replace hW := Lib.hid hW
  replace h1 := Lib.hid h1
  replace h2 := Lib.hid h2
  replace h3 := Lib.hid h3
  replace h4 := Lib.hid h4
  replace h6 := Lib.hid h6
  replace h8 := Lib.hid h8
  replace hN := Lib.hid hN
  go_enter Try.func50, Try.ntmps50
  go_upto_region 1 with fail
  rw [← hW.out]
  go_cut [3] (fun p wx => p = .bool b1 ∧ W = wx)
  case first =>
    as_aux_lemma =>
    obtain ⟨c1, gc1⟩ : ∃ x, (k == 1) = x := ⟨_, rfl⟩
    obtain ⟨c2, gc2⟩ : ∃ x, (k == 2) = x := ⟨_, rfl⟩
    obtain ⟨c3, gc3⟩ : ∃ x, (k == 3) = x := ⟨_, rfl⟩
    obtain ⟨c4, gc4⟩ : ∃ x, (k == 4) = x := ⟨_, rfl⟩
    go_wp2_with fail
    all_goals (go_meet; exact ⟨congrArg Value.bool (by rw [h1.out]; unfold r1B; rw [gc1, gc2, gc3, gc4]; simp [*]), rfl⟩)
  case rest =>
    obtain ⟨rfl, rfl⟩ := hcut
    go_upto_region 2 with fail
    go_cut [4] (fun p wx => p = .bool b2 ∧ W = wx)
    case first =>
      as_aux_lemma =>
      obtain ⟨c1, gc1⟩ : ∃ x, (k == 1) = x := ⟨_, rfl⟩
      obtain ⟨c2, gc2⟩ : ∃ x, (k == 2) = x := ⟨_, rfl⟩
      obtain ⟨c3, gc3⟩ : ∃ x, (k == 3) = x := ⟨_, rfl⟩
      go_wp2_with fail
      all_goals (go_meet; exact ⟨congrArg Value.bool (by rw [h2.out]; unfold r2B; rw [gc1, gc2, gc3]; simp [*]), rfl⟩)
    case rest =>
      obtain ⟨rfl, rfl⟩ := hcut
      go_upto_region 3 with fail
      go_cut [5] (fun p wx => p = .bool b3 ∧ W = wx)
      case first =>
        as_aux_lemma =>
        obtain ⟨c1, gc1⟩ : ∃ x, (k == 1) = x := ⟨_, rfl⟩
        obtain ⟨c2, gc2⟩ : ∃ x, (k == 2) = x := ⟨_, rfl⟩
        go_wp2_with fail
        all_goals (go_meet; exact ⟨congrArg Value.bool (by rw [h3.out]; unfold r3B; rw [gc1, gc2]; simp [*]), rfl⟩)
      case rest =>
        obtain ⟨rfl, rfl⟩ := hcut
        go_upto_region 4 with fail
        go_cut [79] (fun p wx => p = .bool b4 ∧ W = wx)
        case first =>
          as_aux_lemma =>
          go_wp2_with fail
          all_goals (go_meet; exact ⟨congrArg Value.bool (by rw [h4.out, Bool.eq_iff_iff]; unfold r4B; first | (simp; done) | (simp; omega) | (simp [*]; done) | (simp [*]; omega)), rfl⟩)
        case rest =>
          obtain ⟨rfl, rfl⟩ := hcut
          cases b4
          case true =>
            have hf := hfin.out false rfl
            clear hfin
            replace hf := Lib.hid hf
            go_wp2_with fail
            exact hf.out
          case false =>
            go_upto_region 6 with fail
            go_cut [114] (fun p wx => p = .bool b6 ∧ W = wx)
            case first =>
              as_aux_lemma =>
              obtain ⟨x1, gx1⟩ : ∃ x, (t != 0) = x := ⟨_, rfl⟩
              obtain ⟨x2, gx2⟩ : ∃ x, (off != 0) = x := ⟨_, rfl⟩
              obtain ⟨x3, gx3⟩ : ∃ x, (val != 0) = x := ⟨_, rfl⟩
              obtain ⟨x4, gx4⟩ : ∃ x, (k != 2) = x := ⟨_, rfl⟩
              obtain ⟨x5, gx5⟩ : ∃ x, (old != 0) = x := ⟨_, rfl⟩
              cases b1 <;> cases b2 <;> cases b3
              all_goals
                as_aux_lemma =>
                go_wp2_with fail
                all_goals (go_meet; exact ⟨congrArg Value.bool (by rw [h6.out]; unfold r6B; rw [gx1, gx2, gx3, gx4, gx5]; simp [*]), rfl⟩)
            case rest =>
              obtain ⟨rfl, rfl⟩ := hcut
              cases b6
              case true =>
                have hf := hfin.out false rfl
                clear hfin
                replace hf := Lib.hid hf
                go_wp2_with fail
                exact hf.out
              case false =>
                go_upto_region 8 with fail
                go_cut [132] (fun p wx => p = .bool b8 ∧ W = wx)
                case first =>
                  as_aux_lemma =>
                  obtain ⟨x1, gx1⟩ : ∃ x, (k != 5) = x := ⟨_, rfl⟩
                  obtain ⟨x2, gx2⟩ : ∃ x, (line != 0) = x := ⟨_, rfl⟩
                  obtain ⟨x3, gx3⟩ : ∃ x, (k != 7) = x := ⟨_, rfl⟩
                  obtain ⟨x4, gx4⟩ : ∃ x, (cl != 0) = x := ⟨_, rfl⟩
                  go_wp2_with fail
                  all_goals (go_meet; exact ⟨congrArg Value.bool (by rw [h8.out]; unfold r8B; rw [gx1, gx2, gx3, gx4]; simp [*]), rfl⟩)
                case rest =>
                  obtain ⟨rfl, rfl⟩ := hcut
                  cases b8
                  case true =>
                    have hf := hfin.out false rfl
                    clear hfin
                    replace hf := Lib.hid hf
                    go_wp2_with fail
                    exact hf.out
                  case false =>
                    have hf := hfin.out bN rfl
                    rw [hN.out] at hf
                    clear hfin hN
                    replace hf := Lib.hid hf
                    have fin2 : ∀ b, b = rNB k n → Hid (post (.returned (.bool b)) W) := fun b hb => by rw [hb]; exact hf
                    clear hf
                    unfold rNB at fin2
                    by_cases k6 : k = 6
                    · have q5 : (k == 5) = false := by simp [k6]
                      have q6 : (k == 6) = true := by simp [k6]
                      by_cases hl : -1 ≤ n
                      · have d1 : decide (-1 ≤ n) = true := decide_eq_true hl
                        have hz := fin2 (decide (n ≤ 2147483647)) (by simp [k6, hl])
                        replace k6 := Lib.hid k6
                        clear fin2
                        as_aux_lemma =>
                        go_wp2_with fail
                        exact hz.out
                      · have d1 : decide (-1 ≤ n) = false := decide_eq_false hl
                        have hz := fin2 false (by simp [k6, hl])
                        replace k6 := Lib.hid k6
                        clear fin2
                        as_aux_lemma =>
                        go_wp2_with fail
                        exact hz.out
                    · have q6 : (k == 6) = false := by simp [k6]
                      by_cases hl : 0 ≤ n
                      · have d1 : decide (0 ≤ n) = true := decide_eq_true hl
                        by_cases k5 : k = 5
                        · have q5 : (k == 5) = true := by simp [k5]
                          have hz := fin2 (decide (n ≤ 2147483647)) (by simp [k5, hl])
                          replace k6 := Lib.hid k6
                          replace k5 := Lib.hid k5
                          clear fin2
                          as_aux_lemma =>
                          go_wp2_with fail
                          exact hz.out
                        · have q5 : (k == 5) = false := by simp [k5]
                          have hz := fin2 (decide (n ≤ 0)) (by simp [k5, k6, hl])
                          replace k6 := Lib.hid k6
                          replace k5 := Lib.hid k5
                          clear fin2
                          as_aux_lemma =>
                          go_wp2_with fail
                          exact hz.out
                      · have d1 : decide (0 ≤ n) = false := decide_eq_false hl
                        have hz := fin2 false (by simp [k6, hl])
                        replace k6 := Lib.hid k6
                        clear fin2
                        cases q5 : (k == 5)
                        all_goals
                          as_aux_lemma =>
                          go_wp2_with fail
                          exact hz.out
end Go.Proofs.Ytpgjpoilcdkjgaa
