/- The walk of Event.Valid. -/
import Derived.Test.YtjmdibgncaljaaaO1
import Derived.Deep.DeepCutAuto
namespace Go.Proofs.Ytjmdibgncaljaaa
open Go.RowKit

def plB (line n : Int) : Bool := line == 0 && n == 0
def wdB (t off val old : Int) : Bool := t == 0 && off == 0 && val == 0 && old == 0
def kindB (k t off val old line n : Int) : Bool :=
  if k = 1 then plB line n && old == 0 else if k = 2 then plB line n else if k = 3 then plB line n && val == 0 && old == 0 else if k = 4 then plB line n && off == 0 && val == 0 && old == 0
  else if k = 5 then wdB t off val old && decide (0 ≤ n) else if k = 6 then wdB t off val old && line == 0 else if k = 7 then wdB t off val old && plB line n else false
def validP (k t off val old line n : Int) (cl : Nat) : Bool :=
  if t < 0 then false else if 8 ≤ t then false else if line < 0 then false else if 4096 ≤ line then false else if n < -1 then false else if 2147483647 < n then false else if 512 < cl then false
  else if k ≠ 7 ∧ 0 < cl then false else kindB k t off val old line n

def ValPost (w : World) (b : Bool) (e : Ending) (w' : World) : Prop := e = .returned (.bool b) ∧ Below w.heap.size w w'

set_option maxHeartbeats 4000000 in
set_option maxRecDepth 100000 in
theorem valid_any (k t off val old line n : Int) (ca : Option Addr) (cl cc : Nat) (w : World) :
    Calls Try.prog 37 #[.agg #[.int .u8 k, .int .i64 t, .int .u64 off, .int .u64 val, .int .u64 old, .int .i64 line, .int .i64 n, .slice ca cl cc]] w (ValPost w (validP k t off val old line n cl)) := by
  have hB : Below w.heap.size w (w.alloc (.cells #[.int .u8 k, .int .i64 t, .int .u64 off, .int .u64 val, .int .u64 old, .int .i64 line, .int .i64 n, .slice ca cl cc] 30)) := (Below.refl _ _).alloc (Nat.le_refl _) _
  have hE := Has.new w [.int .u8 k, .int .i64 t, .int .u64 off, .int .u64 val, .int .u64 old, .int .i64 line, .int .i64 n, .slice ca cl cc] 30
  have e0 := hE.cell (o := 0) rfl
  have e1 := hE.cell (o := 1) rfl
  have e2 := hE.cell (o := 2) rfl
  have e3 := hE.cell (o := 3) rfl
  have e4 := hE.cell (o := 4) rfl
  have e5 := hE.cell (o := 5) rfl
  have e6 := hE.cell (o := 6) rfl
  have e7 := hE.cell (o := 7) rfl
  clear hE
  by_cases h1 : t < 0
  · have hr : validP k t off val old line n cl = false := by unfold validP; rw [if_pos h1]
    rw [hr]
    have d1 : decide (t < 0) = true := decide_eq_true h1
    clear hr
    go_enter Try.func37, Try.ntmps37
    go_wp2_with fail
    go_ret
    exact ⟨rfl, hB⟩
  by_cases h2 : 8 ≤ t
  · have hr : validP k t off val old line n cl = false := by unfold validP; rw [if_neg h1, if_pos h2]
    rw [hr]
    have d1 : decide (t < 0) = false := decide_eq_false h1
    have d2 : decide (8 ≤ t) = true := decide_eq_true h2
    clear hr
    go_enter Try.func37, Try.ntmps37
    go_wp2_with fail
    go_ret
    exact ⟨rfl, hB⟩
  have d1 : decide (t < 0) = false := decide_eq_false h1
  have d2 : decide (8 ≤ t) = false := decide_eq_false h2
  by_cases h3 : line < 0
  · have hr : validP k t off val old line n cl = false := by unfold validP; rw [if_neg h1, if_neg h2, if_pos h3]
    rw [hr]
    have d3 : decide (line < 0) = true := decide_eq_true h3
    clear hr
    go_enter Try.func37, Try.ntmps37
    go_wp2_with fail
    go_ret
    exact ⟨rfl, hB⟩
  have d3 : decide (line < 0) = false := decide_eq_false h3
  by_cases h4 : 4096 ≤ line
  · have hr : validP k t off val old line n cl = false := by unfold validP; rw [if_neg h1, if_neg h2, if_neg h3, if_pos h4]
    rw [hr]
    have d4 : decide (4096 ≤ line) = true := decide_eq_true h4
    clear hr
    go_enter Try.func37, Try.ntmps37
    go_wp2_with fail
    go_ret
    exact ⟨rfl, hB⟩
  have d4 : decide (4096 ≤ line) = false := decide_eq_false h4
  by_cases h5 : n < -1
  · have hr : validP k t off val old line n cl = false := by unfold validP; rw [if_neg h1, if_neg h2, if_neg h3, if_neg h4, if_pos h5]
    rw [hr]
    have d5 : decide (n < -1) = true := decide_eq_true h5
    clear hr
    go_enter Try.func37, Try.ntmps37
    go_wp2_with fail
    go_ret
    exact ⟨rfl, hB⟩
  have d5 : decide (n < -1) = false := decide_eq_false h5
  by_cases h6 : 2147483647 < n
  · have hr : validP k t off val old line n cl = false := by unfold validP; rw [if_neg h1, if_neg h2, if_neg h3, if_neg h4, if_neg h5, if_pos h6]
    rw [hr]
    have d6 : decide (2147483647 < n) = true := decide_eq_true h6
    clear hr
    go_enter Try.func37, Try.ntmps37
    go_wp2_with fail
    go_ret
    exact ⟨rfl, hB⟩
  have d6 : decide (2147483647 < n) = false := decide_eq_false h6
  by_cases h7 : 512 < cl
  · have hr : validP k t off val old line n cl = false := by unfold validP; rw [if_neg h1, if_neg h2, if_neg h3, if_neg h4, if_neg h5, if_neg h6, if_pos h7]
    rw [hr]
    have d7 : decide ((512 : Int) < (cl : Int)) = true := decide_eq_true (by omega)
    clear hr
    go_enter Try.func37, Try.ntmps37
    go_wp2_with fail
    go_ret
    exact ⟨rfl, hB⟩
  have d7 : decide ((512 : Int) < (cl : Int)) = false := decide_eq_false (by omega)
  by_cases h8 : k ≠ 7 ∧ 0 < cl
  · have hr : validP k t off val old line n cl = false := by unfold validP; rw [if_neg h1, if_neg h2, if_neg h3, if_neg h4, if_neg h5, if_neg h6, if_neg h7, if_pos h8]
    rw [hr]
    obtain ⟨h9, h10⟩ := h8
    have d8 : (k != 7) = true := by simpa using h9
    have d9 : decide ((0 : Int) < (cl : Int)) = true := decide_eq_true (by omega)
    have d9' : decide (0 < cl) = true := decide_eq_true (by omega)
    clear hr
    go_enter Try.func37, Try.ntmps37
    go_wp2_with fail
    go_ret
    exact ⟨rfl, hB⟩
  have hr : validP k t off val old line n cl = kindB k t off val old line n := by unfold validP; rw [if_neg h1, if_neg h2, if_neg h3, if_neg h4, if_neg h5, if_neg h6, if_neg h7, if_neg h8]
  rw [hr]
  generalize hpost : ValPost w (kindB k t off val old line n) = post
  have hend : ∀ b, b = kindB k t off val old line n → post (.returned (.bool b)) (w.alloc (.cells #[.int .u8 k, .int .i64 t, .int .u64 off, .int .u64 val, .int .u64 old, .int .i64 line, .int .i64 n, .slice ca cl cc] 30)) := by
    intro b hb; rw [← hpost, hb]; exact ⟨rfl, hB⟩
  clear hr hpost hB
  unfold kindB at hend
  obtain ⟨pl, hpl⟩ : ∃ pl, plB line n = pl := ⟨_, rfl⟩
  obtain ⟨wd, hwd⟩ : ∃ wd, wdB t off val old = wd := ⟨_, rfl⟩
  rw [hpl, hwd] at hend
  replace hend := Lib.hid hend
  replace hpl := Lib.hid hpl
  replace hwd := Lib.hid hwd
  by_cases h9 : k = 7
  · have d8 : (k != 7) = false := by simp [h9]
    have f1 : (k == 1) = false := by simp [h9]
    have f2 : (k == 2) = false := by simp [h9]
    have f3 : (k == 3) = false := by simp [h9]
    have f4 : (k == 4) = false := by simp [h9]
    have f5 : (k == 5) = false := by simp [h9]
    have f6 : (k == 6) = false := by simp [h9]
    have f7 : (k == 7) = true := by simp [h9]
    have hfin : Hid (post (.returned (.bool (wd && pl))) (w.alloc (.cells #[.int .u8 k, .int .i64 t, .int .u64 off, .int .u64 val, .int .u64 old, .int .i64 line, .int .i64 n, .slice ca cl cc] 30))) := hend.out _ (by simp [h9])
    clear hend
    replace h9 := Lib.hid h9
    replace h8 := Lib.hid h8
    go_enter Try.func37, Try.ntmps37
    go_upto_region 7 with fail
    go_cut [3] (fun p wx => p = .bool pl ∧ wx = w.alloc (.cells #[.int .u8 k, .int .i64 t, .int .u64 off, .int .u64 val, .int .u64 old, .int .i64 line, .int .i64 n, .slice ca cl cc] 30))
    case first =>
      cases hl : (line == 0) <;> cases hn : (n == 0)
      all_goals (go_wp2_with fail; go_meet; exact ⟨by rw [← hpl.out]; unfold plB; rw [hl, hn]; rfl, rfl⟩)
    case rest =>
      obtain ⟨rfl, rfl⟩ := hcut
      go_upto_region 8 with fail
      go_cut [4] (fun p wx => p = .bool wd ∧ wx = w.alloc (.cells #[.int .u8 k, .int .i64 t, .int .u64 off, .int .u64 val, .int .u64 old, .int .i64 line, .int .i64 n, .slice ca cl cc] 30))
      case first =>
        cases hl : (t == 0) <;> cases hn : (off == 0) <;> cases hv : (val == 0) <;> cases ho : (old == 0)
        all_goals (go_wp2_with fail; go_meet; exact ⟨by rw [← hwd.out]; unfold wdB; rw [hl, hn, hv, ho]; rfl, rfl⟩)
      case rest =>
        obtain ⟨rfl, rfl⟩ := hcut
        cases pl <;> cases wd
        all_goals
          go_wp2_with fail
          exact hfin.out
  · have d8 : (k != 7) = true := by simp [h9]
    have hcl : cl = 0 := by omega
    have d9 : decide ((0 : Int) < (cl : Int)) = false := decide_eq_false (by omega)
    have d9' : decide (0 < cl) = false := decide_eq_false (by omega)
    replace hcl := Lib.hid hcl
    replace h8 := Lib.hid h8
    go_enter Try.func37, Try.ntmps37
    go_upto_region 7 with fail
    go_cut [3] (fun p wx => p = .bool pl ∧ wx = w.alloc (.cells #[.int .u8 k, .int .i64 t, .int .u64 off, .int .u64 val, .int .u64 old, .int .i64 line, .int .i64 n, .slice ca cl cc] 30))
    case first =>
      cases hl : (line == 0) <;> cases hn : (n == 0)
      all_goals (go_wp2_with fail; go_meet; exact ⟨by rw [← hpl.out]; unfold plB; rw [hl, hn]; rfl, rfl⟩)
    case rest =>
      obtain ⟨rfl, rfl⟩ := hcut
      go_upto_region 8 with fail
      go_cut [4] (fun p wx => p = .bool wd ∧ wx = w.alloc (.cells #[.int .u8 k, .int .i64 t, .int .u64 off, .int .u64 val, .int .u64 old, .int .i64 line, .int .i64 n, .slice ca cl cc] 30))
      case first =>
        cases hl : (t == 0) <;> cases hn : (off == 0) <;> cases hv : (val == 0) <;> cases ho : (old == 0)
        all_goals (go_wp2_with fail; go_meet; exact ⟨by rw [← hwd.out]; unfold wdB; rw [hl, hn, hv, ho]; rfl, rfl⟩)
      case rest =>
        obtain ⟨rfl, rfl⟩ := hcut
        by_cases hk : k = 1
        · have f1 : (k == 1) = true := by simp [hk]
          have f2 : (k == 2) = false := by simp [hk]
          have f3 : (k == 3) = false := by simp [hk]
          have f4 : (k == 4) = false := by simp [hk]
          have f5 : (k == 5) = false := by simp [hk]
          have f6 : (k == 6) = false := by simp [hk]
          have f7 : (k == 7) = false := by simp [hk]
          have hfin : Hid (post (.returned (.bool (pl && old == 0))) (w.alloc (.cells #[.int .u8 k, .int .i64 t, .int .u64 off, .int .u64 val, .int .u64 old, .int .i64 line, .int .i64 n, .slice ca cl cc] 30))) := hend.out _ (by simp [hk])
          clear hend
          replace hk := Lib.hid hk
          cases pl <;> cases g0 : (old == 0)
          all_goals (rw [g0] at hfin; go_wp2_with fail; exact hfin.out)
        by_cases hk : k = 2
        · have f1 : (k == 1) = false := by simp [hk]
          have f2 : (k == 2) = true := by simp [hk]
          have f3 : (k == 3) = false := by simp [hk]
          have f4 : (k == 4) = false := by simp [hk]
          have f5 : (k == 5) = false := by simp [hk]
          have f6 : (k == 6) = false := by simp [hk]
          have f7 : (k == 7) = false := by simp [hk]
          have hfin : Hid (post (.returned (.bool (pl))) (w.alloc (.cells #[.int .u8 k, .int .i64 t, .int .u64 off, .int .u64 val, .int .u64 old, .int .i64 line, .int .i64 n, .slice ca cl cc] 30))) := hend.out _ (by simp [hk])
          clear hend
          replace hk := Lib.hid hk
          cases pl
          all_goals (go_wp2_with fail; exact hfin.out)
        by_cases hk : k = 3
        · have f1 : (k == 1) = false := by simp [hk]
          have f2 : (k == 2) = false := by simp [hk]
          have f3 : (k == 3) = true := by simp [hk]
          have f4 : (k == 4) = false := by simp [hk]
          have f5 : (k == 5) = false := by simp [hk]
          have f6 : (k == 6) = false := by simp [hk]
          have f7 : (k == 7) = false := by simp [hk]
          have hfin : Hid (post (.returned (.bool (pl && val == 0 && old == 0))) (w.alloc (.cells #[.int .u8 k, .int .i64 t, .int .u64 off, .int .u64 val, .int .u64 old, .int .i64 line, .int .i64 n, .slice ca cl cc] 30))) := hend.out _ (by simp [hk])
          clear hend
          replace hk := Lib.hid hk
          cases pl <;> cases g0 : (val == 0) <;> cases g1 : (old == 0)
          all_goals (rw [g0] at hfin; rw [g1] at hfin; go_wp2_with fail; exact hfin.out)
        by_cases hk : k = 4
        · have f1 : (k == 1) = false := by simp [hk]
          have f2 : (k == 2) = false := by simp [hk]
          have f3 : (k == 3) = false := by simp [hk]
          have f4 : (k == 4) = true := by simp [hk]
          have f5 : (k == 5) = false := by simp [hk]
          have f6 : (k == 6) = false := by simp [hk]
          have f7 : (k == 7) = false := by simp [hk]
          have hfin : Hid (post (.returned (.bool (pl && off == 0 && val == 0 && old == 0))) (w.alloc (.cells #[.int .u8 k, .int .i64 t, .int .u64 off, .int .u64 val, .int .u64 old, .int .i64 line, .int .i64 n, .slice ca cl cc] 30))) := hend.out _ (by simp [hk])
          clear hend
          replace hk := Lib.hid hk
          cases pl <;> cases g0 : (off == 0) <;> cases g1 : (val == 0) <;> cases g2 : (old == 0)
          all_goals (rw [g0] at hfin; rw [g1] at hfin; rw [g2] at hfin; go_wp2_with fail; exact hfin.out)
        by_cases hk : k = 5
        · have f1 : (k == 1) = false := by simp [hk]
          have f2 : (k == 2) = false := by simp [hk]
          have f3 : (k == 3) = false := by simp [hk]
          have f4 : (k == 4) = false := by simp [hk]
          have f5 : (k == 5) = true := by simp [hk]
          have f6 : (k == 6) = false := by simp [hk]
          have f7 : (k == 7) = false := by simp [hk]
          have hfin : Hid (post (.returned (.bool (wd && decide (0 ≤ n)))) (w.alloc (.cells #[.int .u8 k, .int .i64 t, .int .u64 off, .int .u64 val, .int .u64 old, .int .i64 line, .int .i64 n, .slice ca cl cc] 30))) := hend.out _ (by simp [hk])
          clear hend
          replace hk := Lib.hid hk
          cases wd <;> cases g0 : (decide (0 ≤ n))
          all_goals (rw [g0] at hfin; go_wp2_with fail; exact hfin.out)
        by_cases hk : k = 6
        · have f1 : (k == 1) = false := by simp [hk]
          have f2 : (k == 2) = false := by simp [hk]
          have f3 : (k == 3) = false := by simp [hk]
          have f4 : (k == 4) = false := by simp [hk]
          have f5 : (k == 5) = false := by simp [hk]
          have f6 : (k == 6) = true := by simp [hk]
          have f7 : (k == 7) = false := by simp [hk]
          have hfin : Hid (post (.returned (.bool (wd && line == 0))) (w.alloc (.cells #[.int .u8 k, .int .i64 t, .int .u64 off, .int .u64 val, .int .u64 old, .int .i64 line, .int .i64 n, .slice ca cl cc] 30))) := hend.out _ (by simp [hk])
          clear hend
          replace hk := Lib.hid hk
          cases wd <;> cases g0 : (line == 0)
          all_goals (rw [g0] at hfin; go_wp2_with fail; exact hfin.out)
        have hfin : Hid (post (.returned (.bool false)) (w.alloc (.cells #[.int .u8 k, .int .i64 t, .int .u64 off, .int .u64 val, .int .u64 old, .int .i64 line, .int .i64 n, .slice ca cl cc] 30))) := hend.out _ (by simp [*])
        clear hend
        have f1 : (k == 1) = false := by simp [*]
        have f2 : (k == 2) = false := by simp [*]
        have f3 : (k == 3) = false := by simp [*]
        have f4 : (k == 4) = false := by simp [*]
        have f5 : (k == 5) = false := by simp [*]
        have f6 : (k == 6) = false := by simp [*]
        have f7 : (k == 7) = false := by simp [*]
        go_wp2_with fail
        exact hfin.out
end Go.Proofs.Ytjmdibgncaljaaa
