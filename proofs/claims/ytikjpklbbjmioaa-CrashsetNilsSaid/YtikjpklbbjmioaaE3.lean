/- The reference's device: value, Load, Arm. -/
import Derived.Test.YtikjpklbbjmioaaE2
import Derived.Test.YtikjpklbbjmioaaD6
namespace Go.Proofs.Ytikjpklbbjmioaa
open Go.RowKit Go.Maps
variable {w : World} {F : Own} {o h T : Nat} {R : Dv}

/-- The cells of one line, in the walk's own spelling. -/
structure LineCells (w : World) (lb i : Nat) (l : Ln) (v : Value) : Prop where
  c0 : w.cell? ⟨lb, i * 10, none⟩ = some (.int .u64 ((wat l.base 0 : Nat) : Int))
  c1 : w.cell? ⟨lb, i * 10 + 1, none⟩ = some (.int .u64 ((wat l.base 1 : Nat) : Int))
  c2 : w.cell? ⟨lb, i * 10 + 2, none⟩ = some (.int .u64 ((wat l.base 2 : Nat) : Int))
  c3 : w.cell? ⟨lb, i * 10 + 3, none⟩ = some (.int .u64 ((wat l.base 3 : Nat) : Int))
  c4 : w.cell? ⟨lb, i * 10 + 4, none⟩ = some (.int .u64 ((wat l.base 4 : Nat) : Int))
  c5 : w.cell? ⟨lb, i * 10 + 5, none⟩ = some (.int .u64 ((wat l.base 5 : Nat) : Int))
  c6 : w.cell? ⟨lb, i * 10 + 6, none⟩ = some (.int .u64 ((wat l.base 6 : Nat) : Int))
  c7 : w.cell? ⟨lb, i * 10 + 7, none⟩ = some (.int .u64 ((wat l.base 7 : Nat) : Int))
  c8 : w.cell? ⟨lb, i * 10 + 8, none⟩ = some v
  c9 : w.cell? ⟨lb, i * 10 + 9, none⟩ = some (.int .i64 (l.done : Int))
theorem RLinSt.cells {lb lc i : Nat} (hr : RLinSt w F o lb lc R) (hi : i < R.lines.length) : ∃ va vc, LineCells w lb i (R.line i) (.slice va (R.line i).hist.length vc) ∧ RdO w F (o, 2, i) (.slice va (R.line i).hist.length vc) (R.line i).hist.length (wcells (R.line i).hist) := by
  obtain ⟨cs, hv, h1, h3⟩ := hr
  obtain ⟨a, b, c, d⟩ := h3 i hi
  obtain ⟨va, vc, hva, hrd⟩ := d.1
  have at' : ∀ j u, cs[j]? = some u → w.cell? ⟨lb, j, none⟩ = some u := by
    intro j u hj
    have hl : j < R.lines.length * 10 := by
      rcases Nat.lt_or_ge j cs.length with h4 | h4
      · have := h1.1; omega
      · rw [List.getElem?_eq_none h4] at hj; cases hj
    rw [h1.cellAt j hl]; exact hj
  rw [hva] at b d
  exact ⟨va, vc, ⟨at' _ _ (a 0 (by omega)), at' _ _ (a 1 (by omega)), at' _ _ (a 2 (by omega)), at' _ _ (a 3 (by omega)), at' _ _ (a 4 (by omega)), at' _ _ (a 5 (by omega)), at' _ _ (a 6 (by omega)), at' _ _ (a 7 (by omega)), at' _ _ b, at' _ _ c⟩, d⟩
theorem LineCells.only {S : Nat → Prop} {w w' : World} {lb i : Nat} {l : Ln} {v : Value} (h : LineCells w lb i l v) (ho : Only S w w') (hs : ¬ S lb) : LineCells w' lb i l v :=
  ⟨ho.cell h.c0 hs, ho.cell h.c1 hs, ho.cell h.c2 hs, ho.cell h.c3 hs, ho.cell h.c4 hs, ho.cell h.c5 hs, ho.cell h.c6 hs, ho.cell h.c7 hs, ho.cell h.c8 hs, ho.cell h.c9 hs⟩
theorem index_agg0 (x0 x1 x2 x3 x4 x5 x6 x7 : Value) (w : World) : (Instr.index 119 (.agg #[x0, x1, x2, x3, x4, x5, x6, x7]) (.int .u64 0)).run Try.prog w = .ok x0 w := by kernel_rfl
theorem index_agg1 (x0 x1 x2 x3 x4 x5 x6 x7 : Value) (w : World) : (Instr.index 119 (.agg #[x0, x1, x2, x3, x4, x5, x6, x7]) (.int .u64 1)).run Try.prog w = .ok x1 w := by kernel_rfl
theorem index_agg2 (x0 x1 x2 x3 x4 x5 x6 x7 : Value) (w : World) : (Instr.index 119 (.agg #[x0, x1, x2, x3, x4, x5, x6, x7]) (.int .u64 2)).run Try.prog w = .ok x2 w := by kernel_rfl
theorem index_agg3 (x0 x1 x2 x3 x4 x5 x6 x7 : Value) (w : World) : (Instr.index 119 (.agg #[x0, x1, x2, x3, x4, x5, x6, x7]) (.int .u64 3)).run Try.prog w = .ok x3 w := by kernel_rfl
theorem index_agg4 (x0 x1 x2 x3 x4 x5 x6 x7 : Value) (w : World) : (Instr.index 119 (.agg #[x0, x1, x2, x3, x4, x5, x6, x7]) (.int .u64 4)).run Try.prog w = .ok x4 w := by kernel_rfl
theorem index_agg5 (x0 x1 x2 x3 x4 x5 x6 x7 : Value) (w : World) : (Instr.index 119 (.agg #[x0, x1, x2, x3, x4, x5, x6, x7]) (.int .u64 5)).run Try.prog w = .ok x5 w := by kernel_rfl
theorem index_agg6 (x0 x1 x2 x3 x4 x5 x6 x7 : Value) (w : World) : (Instr.index 119 (.agg #[x0, x1, x2, x3, x4, x5, x6, x7]) (.int .u64 6)).run Try.prog w = .ok x6 w := by kernel_rfl
theorem index_agg7 (x0 x1 x2 x3 x4 x5 x6 x7 : Value) (w : World) : (Instr.index 119 (.agg #[x0, x1, x2, x3, x4, x5, x6, x7]) (.int .u64 7)).run Try.prog w = .ok x7 w := by kernel_rfl
theorem index_agg (ws : List Nat) (j : Nat) (hj : j < 8) (w : World) : (Instr.index 119 (aggW ws) (.int .u64 (j : Int))).run Try.prog w = .ok (.int .u64 ((wat ws j : Nat) : Int)) w := by
  match j, hj with
  | 0, _ => exact index_agg0 _ _ _ _ _ _ _ _ w
  | 1, _ => exact index_agg1 _ _ _ _ _ _ _ _ w
  | 2, _ => exact index_agg2 _ _ _ _ _ _ _ _ w
  | 3, _ => exact index_agg3 _ _ _ _ _ _ _ _ w
  | 4, _ => exact index_agg4 _ _ _ _ _ _ _ _ w
  | 5, _ => exact index_agg5 _ _ _ _ _ _ _ _ w
  | 6, _ => exact index_agg6 _ _ _ _ _ _ _ _ w
  | 7, _ => exact index_agg7 _ _ _ _ _ _ _ _ w

set_option maxHeartbeats 2000000 in
set_option maxRecDepth 100000 in
theorem rvalue_any (hr : RefSt w F o h T R) {off : Nat} (hof : off < 64 * R.lines.length) :
    Calls Try.prog 106 #[.pointer (some ⟨h, 0, none⟩), .int .u64 (off : Int)] w fun e w' => e = .returned (.int .u64 ((valueP R off : Nat) : Int)) ∧ Below w.heap.size w w' := by
  have hn2 := hr.ok.n2
  have hi : off / 64 < R.lines.length := by omega
  have hok := hr.ok.ln _ hi
  have hhl := hok.hl
  have ht100 := hr.ok.t
  obtain ⟨lb, lc, ns, h1, h2, h3, _⟩ := hr.ex
  have c := h1.cell (refCells_lines lb lc ns R)
  obtain ⟨va, vc, ⟨c0, c1, c2, c3, c4, c5, c6, c7, c8, c9⟩, hrd⟩ := h2.cells hi
  have hrd := hrd.1
  have hval : valueP R off = wat (wordsL (R.line (off / 64)) (R.line (off / 64)).hist.length) (off % 64 / 8) := rfl
  rw [hval]
  have hiI : ((off / 64 : Nat) : Int) < (R.lines.length : Int) := by omega
  have hwd := fun w' (hB : Below w.heap.size w w') => words_any w' (R.line (off / 64)) (R.line (off / 64)).hist.length va vc hok.b (Nat.le_refl _) (by omega) (hrd.kept hB) (fun p hp => by obtain ⟨q1, q2, q3⟩ := hok.h p hp; omega) ((R.line (off / 64)).done : Int)
  have hix := fun w => index_agg (wordsL (R.line (off / 64)) (R.line (off / 64)).hist.length) (off % 64 / 8) (by omega) w
  rw [show ((off % 64 / 8 : Nat) : Int) = (off : Int) % 64 / 8 from by omega] at hix
  replace hwd := Lib.hid hwd
  replace hval := Lib.hid hval
  clear hr h2 h1 hok hrd
  generalize hl : R.line (off / 64) = l at *
  replace hl := Lib.hid hl
  go_enter Try.func106, Try.ntmps106
  go_wp2_with fail
  refine (hwd.out _ ((Below.refl _ _).alloc (Nat.le_refl _) _)).mono ?_
  rintro e w1 ⟨rfl, hB1⟩
  have hB2 := ((Below.refl w.heap.size w).alloc (Nat.le_refl _) _).trans (hB1.mono (by simp))
  replace hB2 := Lib.hid hB2
  clear hB1 c0 c1 c2 c3 c4 c5 c6 c7 c8 c9 c
  go_wp2_with fail
  go_ret
  exact ⟨rfl, hB2.out⟩

set_option maxHeartbeats 2000000 in
theorem rload_any (hr : RefSt w F o h T R) {t off : Nat} (ht : t < 8) (hof : off < 18446744073709551616) :
    Calls Try.prog 86 #[.pointer (some ⟨h, 0, none⟩), .int .i64 (t : Int), .int .u64 (off : Int)] w (RPost w F o h T (mayP R t (R.isB off)) (.int .u64 ((loadV R off : Nat) : Int))) := by
  generalize hpost : RPost w F o h T (mayP R t (R.isB off)) (.int .u64 ((loadV R off : Nat) : Int)) = post
  have his := Lib.hid (ris_any hr hof)
  have hma := rmay_any hr (R.isB off) ht
  by_cases hm : mayB R (R.isB off) = true
  · obtain ⟨e1, e2⟩ := mayP_full R t _ hm
    have hin : off < 64 * R.lines.length := by
      unfold Dv.isB at e2; simp only [decide_eq_true_eq] at e2; exact e2.2
    have e3 : loadV R off = valueP R off := by unfold loadV; rw [if_pos hm]
    rw [e1, e3] at hpost
    rw [hm, e1] at hma
    replace hpost := Lib.hid hpost
    replace hma := Lib.hid hma
    clear hr hm e1 e2 e3
    go_enter Try.func86, Try.ntmps86
    go_wp2_with fail
    refine his.out.mono ?_
    rintro e w' ⟨rfl, rfl⟩
    go_wp2_with fail
    refine hma.out.mono ?_
    rintro e w1 ⟨F1, rfl, h1, s1⟩
    have hv := Lib.hid (rvalue_any h1 hin)
    replace h1 := Lib.hid h1
    go_wp2_with fail
    refine hv.out.mono ?_
    rintro e w2 ⟨rfl, hB⟩
    have hfin : post (.returned (.int .u64 ((valueP R off : Nat) : Int))) w2 := by rw [← hpost.out]; exact ⟨F1, rfl, h1.out.below hB, s1.trans (Dstep.below hB)⟩
    replace hfin := Lib.hid hfin
    clear hB s1
    go_wp2_with fail
    exact hfin.out
  · have hm1 : mayB R (R.isB off) = false := by simpa using hm
    have e3 : loadV R off = 0 := by unfold loadV; rw [if_neg hm]
    rw [e3] at hpost
    rw [hm1] at hma
    replace hpost := Lib.hid hpost
    replace hma := Lib.hid hma
    clear hr hm hm1 e3
    go_enter Try.func86, Try.ntmps86
    go_wp2_with fail
    refine his.out.mono ?_
    rintro e w' ⟨rfl, rfl⟩
    go_wp2_with fail
    refine hma.out.mono ?_
    rintro e w1 ⟨F1, rfl, h1, s1⟩
    have hfin : post (.returned (.int .u64 ((0 : Nat) : Int))) w1 := by rw [← hpost.out]; exact ⟨F1, rfl, h1, s1⟩
    replace hfin := Lib.hid hfin
    clear h1 s1
    go_wp2_with fail
    exact hfin.out

theorem rarm_any (hr : RefSt w F o h T R) (n : Int) (hn : n ≤ 9223372036854775807) : Calls Try.prog 96 #[.pointer (some ⟨h, 0, none⟩), .int .i64 n] w (RPost w F o h T (armP R n) (.tuple #[])) := by
  generalize hpost : RPost w F o h T (armP R n) (.tuple #[]) = post
  obtain ⟨lb, lc, ns, h1, _⟩ := hr.ex
  have c := h1.cell (refCells_off lb lc ns R)
  have c3 := h1.cell (refCells_left lb lc ns R)
  have f3 := h1.free 17
  have okA := armP_ok hr.ok hn
  cases hoff : R.off with
  | true =>
    have e : armP R n = R := by simp [armP, hoff]
    rw [hoff] at c
    have hfin : post (.returned (.tuple #[])) w := by rw [← hpost, e]; exact ⟨F, rfl, hr, Dstep.refl _ _ _⟩
    replace hfin := Lib.hid hfin
    clear e hoff hpost hr okA h1
    go_enter Try.func96, Try.ntmps96
    go_wp2_with fail
    first | exact hfin.out | exact bodyPost_end (results_none rfl _ _ _) rfl hfin.out
  | false =>
    have e : armP R n = { R with left := max n (-1) } := by simp [armP, hoff]
    rw [hoff] at c
    rw [e] at okA
    obtain ⟨m, hm⟩ : ∃ m, max n (-1) = m := ⟨_, rfl⟩
    rw [hm] at e okA
    have hD := hr.re (R' := { R with left := m }) (Only.setAt w h 17 (.int .i64 m)) (fun lb lc ns hh => hh.set 17 (.int .i64 m)) rfl rfl okA
    have hS := (Dstep.refl w F o).set (a := ⟨h, 17, none⟩) hr.fh (.int .i64 m)
    have hfin : post (.returned (.tuple #[])) (w.setCell ⟨h, 17, none⟩ (.int .i64 m)) := by rw [← hpost, e]; exact ⟨F, rfl, hD, hS⟩
    replace hfin := Lib.hid hfin
    clear e hoff hpost hr okA hD hS h1
    by_cases hp : ¬ n < -1
    · obtain rfl : m = n := by omega
      clear hm
      go_enter Try.func96, Try.ntmps96
      go_wp2_with fail
      first | exact hfin.out | exact bodyPost_end (results_none rfl _ _ _) rfl hfin.out
    · obtain rfl : m = -1 := by omega
      clear hm
      go_enter Try.func96, Try.ntmps96
      go_wp2_with fail
      first | exact hfin.out | exact bodyPost_end (results_none rfl _ _ _) rfl hfin.out
end Go.Proofs.Ytikjpklbbjmioaa
