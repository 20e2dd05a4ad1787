/- Walks: loads of a device that is on; the undo log: none, Capacity, allowed, entryOff, Open. -/
import Derived.Test.YtjmdibgncaljaaaUC
import Derived.BigQuiet
import Derived.Deep.QuietTactic
namespace Go.Proofs.Ytjmdibgncaljaaa
open Go.RowKit Dev
def RP (w : World) (v : Value) (e : Ending) (w' : World) : Prop := e = .returned v ∧ Below w.heap.size w w'
def RS (w : World) (v : Value) (e : Ending) (w' : World) : Prop := e = .returned v ∧ w = w'
theorem u64w {n : Nat} (h : n < 18446744073709551616) : IntKind.u64.wrap (n : Int) = (n : Int) := by
  have h1 : (n : Int) % (2 ^ IntKind.u64.bits : Int) = (n : Int) := Int.emod_eq_of_lt (by omega) (by show (n : Int) < 18446744073709551616; omega)
  unfold IntKind.wrap
  rw [h1]; rfl
theorem below_drewN {w : World} (n : Nat) : Below w.heap.size w (w.drewN n) := ⟨rfl, rfl, rfl, Nat.le_refl _, fun _ _ => rfl⟩
variable {w : World} {F : Own} {o T : Nat} {L : Lay} {R : Dv}
theorem on_live (h : DevSt w F o L T R) (hL : Live R) {t : Nat} (ht : t < 8) : Calls Try.prog 97 #[.pointer (some ⟨L.tb t, 0, none⟩), .bool true] w (RS w (.bool true)) := by
  have c0 := (h.thr t ht).1.cell (o := 0) rfl
  have d4 := h.dev.cell (o := 11) rfl
  rw [hL.off] at d4
  clear h
  go_enter Try.func97, Try.ntmps97
  go_wp2_with fail
  go_ret
  exact ⟨rfl, rfl⟩
set_option maxHeartbeats 1000000 in
theorem load_live (h : DevSt w F o L T R) (hL : Live R) {t off : Nat} (ht : t < 8) (h8 : off % 8 = 0) (hl : off < 64 * R.lines.length) (hn : R.lines.length ≤ 4096) :
    Calls Try.prog 63 #[.pointer (some ⟨L.tb t, 0, none⟩), .int .u64 (off : Int)] w (RS w (.int .u64 ((valueP R off : Nat) : Int))) := by
  have c0 := (h.thr t ht).1.cell (o := 0) rfl
  have hw := word_any h ht (off := off) (by omega)
  have e : R.isB off = true := by simp [Dv.isB, h8, hl]
  rw [e] at hw
  have hon := Lib.hid (on_live h hL ht)
  have hcur := cur_at h.ok hl
  have ho8I : ((off / 8 : Nat) : Int) < ((R.lines.length * 8 : Nat) : Int) := by omega
  have c1 := h.dev.cell (o := 1) rfl
  have cc := h.cur.cellAt (off / 8) (by omega)
  rw [u64s_get _ _ _ hcur] at cc
  replace hw := Lib.hid hw
  replace h8 := Lib.hid h8
  clear h hcur e
  go_enter Try.func63, Try.ntmps63
  go_wp2_with fail
  refine hw.out.mono ?_
  rintro e w' ⟨rfl, rfl⟩
  go_wp2_with fail
  refine hon.out.mono ?_
  rintro e w' ⟨rfl, rfl⟩
  go_wp2_with fail
  first | exact ⟨rfl, rfl⟩ | (go_ret; exact ⟨rfl, rfl⟩)
theorem m_load (a : Addr) (w : World) : (method 338 67 (.pointer (some a)) "Load").run Try.prog w = .ok (63, .pointer (some a)) w := by kernel_rfl
theorem m_size (a : Addr) (w : World) : (method 338 67 (.pointer (some a)) "Size").run Try.prog w = .ok (150, .pointer (some a)) w := by kernel_rfl
/-- The log of the laws' device: its memory is thread 0, it lies in the lines 0 to 2. -/
def logCells (tb : Nat) : List Value := [.iface 67 (.pointer (some ⟨tb, 0, none⟩)), .int .u64 0, .int .i64 3]
def LogAt (w : World) (lb tb : Nat) : Prop := Has w lb (logCells tb) 143
theorem LogAt.below {w w' : World} {lb tb : Nat} (h : LogAt w lb tb) (hb : Below w.heap.size w w') : LogAt w' lb tb := Has.only h (Only.of_below hb) (Nat.not_le.2 (Has.lt h))
variable {lb : Nat}
theorem unone_any {tb : Nat} (h : LogAt w lb tb) : Calls Try.prog 62 #[.pointer (some ⟨lb, 0, none⟩)] w (RS w (.bool false)) := by
  have c0 := Has.cell h (o := 0) rfl
  clear h
  go_enter Try.func62, Try.ntmps62
  go_wp2_with fail
  go_ret
  exact ⟨rfl, rfl⟩
theorem ucap_any {tb : Nat} (h : LogAt w lb tb) : Calls Try.prog 22 #[.pointer (some ⟨lb, 0, none⟩)] w (RS w (.int .i64 8)) := by
  have c2 := Has.cell h (o := 2) rfl
  have hn := Lib.hid (unone_any h)
  clear h
  go_enter Try.func22, Try.ntmps22
  go_wp2_with fail
  refine hn.out.mono ?_
  rintro e w' ⟨rfl, rfl⟩
  go_wp2_with fail
  go_ret
  exact ⟨rfl, rfl⟩
theorem uoff_any {tb : Nat} (h : LogAt w lb tb) (i : Nat) (hi : i < 1000) : Calls Try.prog 66 #[.pointer (some ⟨lb, 0, none⟩), .int .i64 (i : Int)] w (RS w (.int .u64 ((64 + 16 * i : Nat) : Int))) := by
  have c1 := Has.cell h (o := 1) rfl
  have e : ((64 + 16 * i : Nat) : Int) = 64 + (i : Int) * 16 := by omega
  rw [e]
  clear h e
  go_enter Try.func66, Try.ntmps66
  go_wp2_with fail
  go_ret
  exact ⟨rfl, rfl⟩
theorem uallowed_any (h : DevSt w F o L T R) (hl : R.lines.length = 10) (hg : LogAt w lb (L.tb 0)) (off : Nat) (ho : off < 18446744073709551616) :
    Calls Try.prog 64 #[.pointer (some ⟨lb, 0, none⟩), .int .u64 (off : Int)] w (RP w (.bool (okOff off))) := by
  have c0 := Has.cell hg (o := 0) rfl
  have c1 := Has.cell hg (o := 1) rfl
  have c2 := Has.cell hg (o := 2) rfl
  have hs := tsize_any h (t := 0) (by omega)
  rw [hl] at hs
  replace hs := Lib.hid hs
  have hms := fun w => m_size ⟨L.tb 0, 0, none⟩ w
  have hne : ¬ (off : Int) < 0 := by omega
  clear h hg hl
  by_cases h8 : off % 8 = 0
  · have e8 : (((off : Int) % 8) != 0) = false := by simp; omega
    by_cases h6 : off < 640
    · have g1 : decide ((640 : Int) ≤ (off : Int)) = false := decide_eq_false (by omega)
      have e : okOff off = decide ((192 : Int) ≤ (off : Int)) := by unfold okOff; apply decide_eq_decide.2; omega
      rw [e]
      obtain ⟨z, hz⟩ : ∃ z, decide ((192 : Int) ≤ (off : Int)) = z := ⟨_, rfl⟩
      have hzz : (decide ((off : Int) < 0) || decide (IntKind.u64.wrap (IntKind.u64.wrap 3 * 64) ≤ IntKind.u64.wrap (off : Int))) = z := by
        rw [decide_eq_false hne, Bool.false_or, u64w ho, show IntKind.u64.wrap (IntKind.u64.wrap 3 * 64) = 192 from by decide, hz]
      replace hzz := Lib.hid hzz
      rw [hz]
      clear e h6
      replace h8 := Lib.hid h8
      go_enter Try.func64, Try.ntmps64
      go_wp2_with fail
      refine hs.out.mono ?_
      rintro e w' ⟨rfl, rfl⟩
      go_upto_region 3 with fail
      go_quiet (fail)
      go_wp2_with fail
      go_ret
      exact ⟨congrArg (fun b => Ending.returned (.bool b)) hzz.out, below_drewN _⟩
    · have g1 : decide ((640 : Int) ≤ (off : Int)) = true := decide_eq_true (by omega)
      have e : okOff off = false := by unfold okOff; exact decide_eq_false (fun h => h6 h.2.2)
      rw [e]
      clear e h6
      replace h8 := Lib.hid h8
      go_enter Try.func64, Try.ntmps64
      go_wp2_with fail
      refine hs.out.mono ?_
      rintro e w' ⟨rfl, rfl⟩
      go_wp2_with fail
      go_ret
      exact ⟨rfl, Below.refl _ _⟩
  · have e8 : (((off : Int) % 8) != 0) = true := by simp; omega
    have e : okOff off = false := by unfold okOff; exact decide_eq_false (fun h => h8 h.1)
    rw [e]
    clear e hs
    replace h8 := Lib.hid h8
    go_enter Try.func64, Try.ntmps64
    go_wp2_with fail
    go_ret
    exact ⟨rfl, Below.refl _ _⟩
/-- Open lays a log. -/
theorem uopen_any (h : DevSt w F o L T R) (hl : R.lines.length = 10) : Calls Try.prog 20 #[.iface 67 (.pointer (some ⟨L.tb 0, 0, none⟩)), .int .i64 0, .int .i64 3] w
    (fun e w' => e = .returned (.tuple #[.pointer (some ⟨w.heap.size, 0, none⟩), .int .i64 0]) ∧ LogAt w' w.heap.size (L.tb 0) ∧ Below w.heap.size w w') := by
  have hs := tsize_any h (t := 0) (by omega)
  rw [hl] at hs
  replace hs := Lib.hid hs
  have hms := fun w => m_size ⟨L.tb 0, 0, none⟩ w
  clear h hl
  go_enter Try.func20, Try.ntmps20
  go_wp2_with fail
  refine hs.out.mono ?_
  rintro e w' ⟨rfl, rfl⟩
  go_wp2_with fail
  go_ret2
  exact ⟨rfl, Has.new w (logCells (L.tb 0)) 143, (Below.refl _ _).alloc (Nat.le_refl _) _⟩
end Go.Proofs.Ytjmdibgncaljaaa
