/- The program's device: counted, Lines, Size, word. The program's device: the small readers, Arm, word. The program's device: Load, apply. The program's device: write, Store, CAS. -/
import Derived.Test.YtdminbjenbbpaaaD3
/-! The program's device: counted, Lines, Size, word. -/
namespace Go.Proofs.Ytdminbjenbbpaaa
open Go.RowKit Go.Maps

set_option maxHeartbeats 2000000 in
theorem counted_any (w : World) (F : Own) (o T t : Nat) (b : Bool) (L : Lay) (R : Dv) (h : DevSt w F o L T R) (hT : T + 1 ≤ 100000) (ht : t < 8) :
    Calls Try.prog 77 #[.pointer (some ⟨L.tb t, 0, none⟩), .bool b] w (DPost w F o L (T + 1) (countP R t b) (.bool (countB R b))) := by
  generalize hpost : DPost w F o L (T + 1) (countP R t b) (.bool (countB R b)) = post
  have hon := on_any w F o T t b L R h ht
  by_cases hm : mayB R b = false
  · have e1 : countB R b = false := by
      unfold mayB at hm; unfold countB; rw [hm]; rfl
    have e2 : countP R t b = mayP R t b := by
      unfold countP mayP
      cases hoff : R.off with
      | true => rfl
      | false => cases b with
        | true => simp [mayB, hoff] at hm
        | false => rfl
    rw [e1, e2] at hpost
    rw [hm] at hon
    have hg : ∀ w1, DPost w F o L T (mayP R t b) (.bool false) (.returned (.bool false)) w1 → post (.returned (.bool false)) w1 := by
      rintro w1 ⟨F1, _, h1, s1⟩
      rw [← hpost]
      exact ⟨F1, rfl, h1.up (by omega) hT, s1⟩
    replace hg := Lib.hid hg
    replace hon := Lib.hid hon
    clear hpost e1 e2 hm h
    go_enter Try.func77, Try.ntmps77
    go_wp2_with fail
    refine hon.out.mono ?_
    rintro e w1 ⟨F1, rfl, h1, s1⟩
    have hx := hg.out w1 ⟨F1, rfl, h1, s1⟩
    replace hx := Lib.hid hx
    clear h1 s1 hg hon
    go_wp2_with fail
    exact hx.out
  · have hm1 : mayB R b = true := by simpa using hm
    have hoff : R.off = false := by
      unfold mayB at hm1; cases hq : R.off with
      | true => rw [hq] at hm1; simp at hm1
      | false => rfl
    have hb : b = true := by
      unfold mayB at hm1; cases b with
      | true => rfl
      | false => simp at hm1
    subst hb
    have em : mayP R t true = R := by simp [mayP, hoff]
    rw [hm1, em] at hon
    have l1 := h.ok.l1
    have l2 := h.ok.l2
    have hex := h.ok.x
    by_cases hz : R.left = 0
    · have e1 : countB R true = false := by simp [countB, hz]
      have e2 : countP R t true = failP { R with off := true } t 3 := by simp [countP, hoff, hz]
      rw [e1, e2] at hpost
      have okO := off_ok h.ok
      replace hpost := Lib.hid hpost
      replace hon := Lib.hid hon
      clear h e1 e2 em hm hm1 hoff
      go_enter Try.func77, Try.ntmps77
      go_wp2_with fail
      refine hon.out.mono ?_
      rintro e w1 ⟨F1, rfl, h1, s1⟩
      have c0 := (h1.thr t ht).1.cell (o := 0) rfl
      have d5 := h1.dev.cell (o := 12) rfl
      have d6 := h1.dev.cell (o := 13) rfl
      have f4 := h1.dev.free 11
      have d4 := h1.dev.cell (o := 11) rfl
      rw [hz] at d5 d6
      have hA := Only.setAt w1 L.g 11 (.bool true)
      have hset := h1.dev.set 11 (.bool true)
      have hD : DevSt (w1.setCell ⟨L.g, 11, none⟩ (.bool true)) F1 o L T { R with off := true } := h1.re hA (by simpa [devCells] using hset) rfl rfl rfl okO (Nat.le_refl _)
      have hS := s1.set (a := ⟨L.g, 11, none⟩) h1.fg (.bool true)
      have hf := fail_any _ F1 o T t 3 L _ hD ht (.inr rfl)
      have c0' := (hD.thr t ht).1.cell (o := 0) rfl
      replace hf := Lib.hid hf
      replace hS := Lib.hid hS
      clear hD hset hA h1 s1
      replace hz := Lib.hid hz
      go_wp2_with fail
      refine hf.out.mono ?_
      rintro e w2 ⟨F2, rfl, h2, s2⟩
      go_wp2_with fail
      rw [← hpost.out]
      exact ⟨F2, rfl, h2.up (by omega) hT, hS.out.trans s2⟩
    · have e1 : countB R true = true := by simp [countB, hoff, hz]
      have e2 : countP R t true = { R with left := (if 0 < R.left then R.left - 1 else R.left), exe := R.exe + 1 } := by simp [countP, hoff, hz]
      rw [e1, e2] at hpost
      have okS := step_ok h.ok hT
      replace hpost := Lib.hid hpost
      replace hon := Lib.hid hon
      clear h e1 e2 em hm hm1 hoff
      go_enter Try.func77, Try.ntmps77
      go_wp2_with fail
      refine hon.out.mono ?_
      rintro e w1 ⟨F1, rfl, h1, s1⟩
      have c0 := (h1.thr t ht).1.cell (o := 0) rfl
      have d5 := h1.dev.cell (o := 12) rfl
      have d6 := h1.dev.cell (o := 13) rfl
      have f6 := h1.dev.free 13
      by_cases hp : 0 < R.left
      · have q1 : decide (0 ≤ R.left) = true := decide_eq_true (by omega)
        have q2 : max R.left 0 = R.left := by omega
        have q3 : decide (0 ≤ R.left - 1) = true := decide_eq_true (by omega)
        have q4 : max (R.left - 1) 0 = R.left - 1 := by omega
        have q5 : (R.left == 0) = false := by rw [beq_eq_false_iff_ne]; exact hz
        rw [q1] at d5
        rw [q2] at d6
        rw [if_pos hp] at okS hpost
        have hs1 := h1.dev.set 13 (.int .i64 (R.left - 1))
        have d7 := hs1.cell (o := 14) rfl
        have f7 := hs1.free 14
        have hs2 := hs1.set 14 (.int .u64 ((R.exe : Int) + 1))
        have hA := (Only.setAt w1 L.g 13 (.int .i64 (R.left - 1))).trans (Only.setAt _ L.g 14 (.int .u64 ((R.exe : Int) + 1)))
        have hD := h1.re hA (R' := { R with left := R.left - 1, exe := R.exe + 1 }) (by rw [show devCells L { R with left := R.left - 1, exe := R.exe + 1 } = ((devCells L R).set 13 (.int .i64 (R.left - 1))).set 14 (.int .u64 ((R.exe : Int) + 1)) from by simp only [devCells, List.set_cons_succ, List.set_cons_zero, q1, q3, q4]; rfl]; exact hs2) rfl rfl rfl okS (by omega)
        have hS := (s1.set (a := ⟨L.g, 13, none⟩) h1.fg (.int .i64 (R.left - 1))).set (a := ⟨L.g, 14, none⟩) h1.fg (.int .u64 ((R.exe : Int) + 1))
        have hfin : post (.returned (.bool true)) ((w1.setCell ⟨L.g, 13, none⟩ (.int .i64 (R.left - 1))).setCell ⟨L.g, 14, none⟩ (.int .u64 ((R.exe : Int) + 1))) := by
          rw [← hpost.out]; exact ⟨F1, rfl, hD, hS⟩
        replace hfin := Lib.hid hfin
        clear hs1 hs2 hA hD hS h1 s1 q1 q2 q3 q4 hpost okS hon
        generalize R.left = lf at *
        generalize R.exe = ex at *
        have hex2 : (ex : Int) ≤ 100000 := by omega
        go_wp2_with fail
        exact hfin.out
      · have q0 : R.left = -1 := by omega
        have q1 : decide (0 ≤ R.left) = false := decide_eq_false (by omega)
        rw [q1] at d5
        rw [if_neg hp] at okS hpost
        have d7 := h1.dev.cell (o := 14) rfl
        have f7 := h1.dev.free 14
        have hs2 := h1.dev.set 14 (.int .u64 ((R.exe : Int) + 1))
        have hA := (Only.setAt w1 L.g 14 (.int .u64 ((R.exe : Int) + 1)))
        have hD := h1.re hA (R' := { R with left := R.left, exe := R.exe + 1 }) (by rw [show devCells L { R with left := R.left, exe := R.exe + 1 } = (devCells L R).set 14 (.int .u64 ((R.exe : Int) + 1)) from by simp only [devCells, List.set_cons_succ, List.set_cons_zero]; rfl]; exact hs2) rfl rfl rfl okS (by omega)
        have hS := s1.set (a := ⟨L.g, 14, none⟩) h1.fg (.int .u64 ((R.exe : Int) + 1))
        have hfin : post (.returned (.bool true)) (w1.setCell ⟨L.g, 14, none⟩ (.int .u64 ((R.exe : Int) + 1))) := by
          rw [← hpost.out]; exact ⟨F1, rfl, hD, hS⟩
        replace hfin := Lib.hid hfin
        clear hs2 hA hD hS h1 s1 q1 q0 hpost okS hon d6
        generalize R.exe = ex at *
        have hex2 : (ex : Int) ≤ 100000 := by omega
        go_wp2_with fail
        exact hfin.out
end Go.Proofs.Ytdminbjenbbpaaa

/-! The program's device: the small readers, Arm, word. -/
namespace Go.Proofs.Ytdminbjenbbpaaa
open Go.RowKit Go.Maps

def Ret (w : World) (v : Value) (e : Ending) (w' : World) : Prop := e = .returned v ∧ w = w'
variable {w : World} {F : Own} {o T : Nat} {L : Lay} {R : Dv}
theorem lines_any (h : DevSt w F o L T R) : Calls Try.prog 55 #[.pointer (some ⟨L.g, 0, none⟩)] w fun e w' => e = .returned (.int .i64 (R.lines.length : Int)) ∧ w = w' := by
  have c := h.dev.cell (o := 2) rfl
  clear h
  go_enter Try.func55, Try.ntmps55
  go_wp2_with fail
  go_ret
  exact ⟨rfl, rfl⟩
theorem size_any (h : DevSt w F o L T R) : Calls Try.prog 52 #[.pointer (some ⟨L.g, 0, none⟩)] w fun e w' => e = .returned (.int .u64 ((R.lines.length : Int) * 64)) ∧ w = w' := by
  have hn := h.ok.n2
  have hl := Lib.hid (lines_any h)
  clear h
  go_enter Try.func52, Try.ntmps52
  go_wp2_with fail
  refine hl.out.mono ?_
  rintro e w' ⟨rfl, rfl⟩
  go_wp2_with fail
  go_ret
  exact ⟨rfl, rfl⟩
theorem thread_in (h : DevSt w F o L T R) {t : Nat} (ht : t < 8) : Calls Try.prog 26 #[.pointer (some ⟨L.g, 0, none⟩), .int .i64 (t : Int)] w fun e w' => e = .returned (.pointer (some ⟨L.tb t, 0, none⟩)) ∧ w = w' := by
  have c := h.dev.cell (devCells_thr L R t ht)
  have hI : (t : Int) < 8 := by omega
  have h0 : (0 : Int) ≤ (t : Int) := by omega
  clear h
  go_enter Try.func26, Try.ntmps26
  go_wp2_with fail
  go_ret
  exact ⟨rfl, rfl⟩
theorem thread_out (g : Nat) (t : Int) (ht : t < 0 ∨ 8 ≤ t) : Calls Try.prog 26 #[.pointer (some ⟨g, 0, none⟩), .int .i64 t] w fun e w' => e = .returned (.pointer none) ∧ w = w' := by
  rcases ht with ht | ht
  · go_enter Try.func26, Try.ntmps26
    go_wp2_with fail
    go_ret
    exact ⟨rfl, rfl⟩
  · have h0 : ¬ t < 0 := by omega
    have h1 : decide (t < 0) = false := decide_eq_false h0
    go_enter Try.func26, Try.ntmps26
    go_wp2_with fail
    go_ret
    exact ⟨rfl, rfl⟩
theorem word_any (h : DevSt w F o L T R) {t off : Nat} (ht : t < 8) (ho : off < 18446744073709551616) : Calls Try.prog 41 #[.pointer (some ⟨L.tb t, 0, none⟩), .int .u64 (off : Int)] w fun e w' => e = .returned (.bool (R.isB off)) ∧ w = w' := by
  have c := (h.thr t ht).1.cell (o := 0) rfl
  have hn := h.ok.n2
  have hl := Lib.hid (size_any h)
  clear h
  by_cases ha : off % 8 = 0
  · have e : R.isB off = decide ((off : Int) < (R.lines.length : Int) * 64) := by
      unfold Dv.isB; apply decide_eq_decide.2; omega
    have h8 : (((off : Int) % 8) == 0) = true := by rw [beq_iff_eq]; omega
    rw [e]
    replace ha := Lib.hid ha
    clear e
    go_enter Try.func41, Try.ntmps41
    go_wp2_with fail
    refine hl.out.mono ?_
    rintro e w' ⟨rfl, rfl⟩
    go_wp2_with fail
    go_ret
    exact ⟨rfl, rfl⟩
  · have e : R.isB off = false := by
      unfold Dv.isB; exact decide_eq_false (fun h => ha h.1)
    have h8 : (((off : Int) % 8) == 0) = false := by rw [beq_eq_false_iff_ne]; omega
    rw [e]
    clear e hl
    go_enter Try.func41, Try.ntmps41
    go_wp2_with fail
    go_ret
    exact ⟨rfl, rfl⟩
end Go.Proofs.Ytdminbjenbbpaaa

/-! The program's device: Load, apply. -/
namespace Go.Proofs.Ytdminbjenbbpaaa
open Go.RowKit Go.Maps
variable {w : World} {F : Own} {o T : Nat} {L : Lay} {R : Dv}

theorem mayP_full (R : Dv) (t : Nat) (b : Bool) (h : mayB R b = true) : mayP R t b = R ∧ b = true := by
  unfold mayB at h
  cases hoff : R.off <;> cases b <;> simp [hoff] at h
  simp [mayP, hoff]
set_option maxHeartbeats 1000000 in
theorem load_any (h : DevSt w F o L T R) {t off : Nat} (ht : t < 8) (ho : off < 18446744073709551616) :
    Calls Try.prog 27 #[.pointer (some ⟨L.tb t, 0, none⟩), .int .u64 (off : Int)] w (DPost w F o L T (mayP R t (R.isB off)) (.int .u64 ((loadV R off : Nat) : Int))) := by
  generalize hpost : DPost w F o L T (mayP R t (R.isB off)) (.int .u64 ((loadV R off : Nat) : Int)) = post
  have c0 := (h.thr t ht).1.cell (o := 0) rfl
  have hw := Lib.hid (word_any h ht ho)
  have hon := on_any w F o T t (R.isB off) L R h ht
  by_cases hm : mayB R (R.isB off) = true
  · obtain ⟨e1, e2⟩ := mayP_full R t _ hm
    have hin : off < 64 * R.lines.length ∧ off % 8 = 0 := by
      unfold Dv.isB at e2; simp only [decide_eq_true_eq] at e2; exact ⟨e2.2, e2.1⟩
    have e3 : loadV R off = valueP R off := by unfold loadV; rw [if_pos hm]
    rw [e1, e3] at hpost
    rw [hm, e1] at hon
    have hcur := cur_at h.ok hin.1
    have hn2 := h.ok.n2
    have ho8I : ((off / 8 : Nat) : Int) < ((R.lines.length * 8 : Nat) : Int) := by omega
    replace hcur := Lib.hid hcur
    replace hpost := Lib.hid hpost
    replace hon := Lib.hid hon
    clear h hm e1 e2 e3
    go_enter Try.func27, Try.ntmps27
    go_wp2_with fail
    refine hw.out.mono ?_
    rintro e w' ⟨rfl, rfl⟩
    go_wp2_with fail
    refine hon.out.mono ?_
    rintro e w1 ⟨F1, rfl, h1, s1⟩
    have c0 := (h1.thr t ht).1.cell (o := 0) rfl
    have c1 := h1.dev.cell (o := 1) rfl
    have cc := h1.cur.cellAt (off / 8) (by omega)
    rw [u64s_get _ _ _ hcur.out] at cc
    replace h1 := Lib.hid h1
    obtain ⟨_, hin2⟩ := hin
    replace hin2 := Lib.hid hin2
    go_wp2_with fail
    rw [← hpost.out]
    exact ⟨F1, rfl, h1.out, s1⟩
  · have hm1 : mayB R (R.isB off) = false := by simpa using hm
    have e3 : loadV R off = 0 := by unfold loadV; rw [if_neg hm]
    rw [e3] at hpost
    rw [hm1] at hon
    replace hpost := Lib.hid hpost
    replace hon := Lib.hid hon
    clear h hm hm1 e3
    go_enter Try.func27, Try.ntmps27
    go_wp2_with fail
    refine hw.out.mono ?_
    rintro e w' ⟨rfl, rfl⟩
    go_wp2_with fail
    refine hon.out.mono ?_
    rintro e w1 ⟨F1, rfl, h1, s1⟩
    replace h1 := Lib.hid h1
    go_wp2_with fail
    rw [← hpost.out]
    exact ⟨F1, rfl, h1.out, s1⟩

def ApplyPost (w : World) (pb pc m : Nat) (ws : List Nat) (e : Ending) (w' : World) : Prop :=
  e = .returned (.tuple #[]) ∧ w'.ownsRow 0 35 1 (.slice (some ⟨pb, 0, none⟩) m pc) m (u64s ws) ∧ Only (fun k => k = pb) w w'
end Go.Proofs.Ytdminbjenbbpaaa

/-! The program's device: write, Store, CAS. -/
namespace Go.Proofs.Ytdminbjenbbpaaa
open Go.RowKit Go.Maps
variable {w : World} {F : Own} {o T : Nat} {L : Lay} {R : Dv}

/-- One history has changed, and nothing else of the lines' block but that line's cells. -/
theorem LinSt.one {w w' : World} {F F' : Own} {o lb i : Nat} {R : Dv} {cs cs' : List Value} {hv : Nat → Value} {S : Nat → Prop} {l : Ln} {v : Value}
    (hi : i < R.lines.length) (hl2 : cs.length = R.lines.length * 2)
    (h : ∀ j, j < R.lines.length → cs[j * 2]? = some (.int .u64 ((R.line j).done : Int)) ∧ cs[j * 2 + 1]? = some (hv j) ∧ SubV w 99 2 (hv j) (R.line j).hist.length (wcells (R.line j).hist) ∧ ∀ k, (hv j).ownBlock = some k → F k = some (o, 4, j))
    (hH : Has w' lb cs' 101) (hcl : cs'.length = cs.length) (hcs : ∀ j, j ≠ i * 2 → j ≠ i * 2 + 1 → cs'[j]? = cs[j]?) (hc0 : cs'[i * 2]? = some (.int .u64 (l.done : Int))) (hc1 : cs'[i * 2 + 1]? = some v)
    (hsub : SubV w' 99 2 v l.hist.length (wcells l.hist)) (hr : ∀ k, v.ownBlock = some k → F' k = some (o, 4, i))
    (ho : Only S w w') (hx : Ext w F F') (hs : ∀ k j, S k → j ≠ i → F k ≠ some (o, 4, j)) : LinSt w' F' o lb (R.setLine i l) := by
  refine ⟨cs', fun j => if j = i then v else hv j, hH, by rw [setLine_len, hcl, hl2], fun j hj => ?_⟩
  rw [setLine_len] at hj
  rw [setLine_line l hi]
  by_cases e : j = i
  · subst e; simp only [if_true]; exact ⟨hc0, hc1, hsub, hr⟩
  · obtain ⟨a, b, c, d⟩ := h j hj
    simp only [if_neg e]
    exact ⟨by rw [hcs _ (by omega) (by omega)]; exact a, by rw [hcs _ (by omega) (by omega)]; exact b, c.only ho (fun k hk s => hs k j s e (d k hk)), fun k hk => (hx k (c.lt hk)).trans (d k hk)⟩

/-- A store has been put into the history of its line, and into the current words. -/
theorem DevSt.put {w w' : World} {F F' : Own} {o T : Nat} {L : Lay} {R : Dv} {S : Nat → Prop} (h : DevSt w F o L T R) (hT : T + 1 ≤ 100000) {off v : Nat} (hof : off < 64 * R.lines.length) (ha : off % 8 = 0) (hv : v < 18446744073709551616)
    (ho : Only S w w') (hx : Ext w F F') (hs : ∀ k, S k → F k = some (o, 4, off / 64) ∨ k = L.lb ∨ k = L.cb)
    (hlin : LinSt w' F' o L.lb (putP R off v)) (hcur : w'.ownsRow 0 35 1 (.slice (some ⟨L.cb, 0, none⟩) (R.lines.length * 8) L.cc) (R.lines.length * 8) (u64s (R.curW.set (off / 8) v))) :
    DevSt w' F' o L (T + 1) (putP R off v) := by
  have e : ∀ {b r}, F b = some (o, r) → b < w.heap.size → F' b = some (o, r) := fun h1 h2 => (hx _ h2).trans h1
  have ne : ∀ {b : Nat} {r : Nat × Nat}, F b = some (o, r) → r.1 ≠ 4 → r ≠ (3, 0) → r ≠ (2, 0) → ¬ S b := by
    intro b r hb h4 h3 h2 s
    rcases hs b s with h1 | rfl | rfl
    · rw [hb] at h1; cases h1; exact h4 rfl
    · have := h.fl; rw [hb] at this; cases this; exact h3 rfl
    · have := h.fc; rw [hb] at this; cases this; exact h2 rfl
  have elen : (putP R off v).lines.length = R.lines.length := setLine_len _ _ _
  refine ⟨putP_ok h.ok hT hof ha hv, ?_, e h.fg h.dev.lt, ?_, e h.fp (ownsRow_lt h.per rfl), ?_, e h.fc (ownsRow_lt h.cur rfl), hlin, ?_, fun t ht => ?_, fun t ht => ?_⟩
  · have : devCells L (putP R off v) = devCells L R := by unfold devCells; rw [elen]; rfl
    rw [this]; exact h.dev.only ho (ne h.fg (by simp) (by simp) (by simp))
  · rw [elen, putP_per hof]; exact ownsRow_only h.per ho (by rintro k hk; cases hk; exact ne h.fp (by simp) (by simp) (by simp))
  · rw [elen, putP_cur h.ok hof]; exact hcur
  · obtain ⟨cs, hv, h1, _⟩ := h.lin; exact e h.fl h1.lt
  · obtain ⟨h1, h2⟩ := h.thr t ht; exact ⟨h1.only ho (ne h2 (by simp) (by simp) (by simp)), e h2 h1.lt⟩
  · obtain ⟨h1, h2⟩ := h.nov t ht
    rw [elen]
    exact ⟨(h1.only ho (ne h2 (by simp) (by simp) (by simp))).up (by omega), e h2 h1.lt⟩

set_option maxHeartbeats 4000000 in
set_option maxRecDepth 100000 in
theorem write_any (h : DevSt w F o L T R) (hT : T + 1 ≤ 100000) {t off v : Nat} (ht : t < 8) (hof : off < 64 * R.lines.length) (ha : off % 8 = 0) (hv : v < 18446744073709551616) :
    Calls Try.prog 78 #[.pointer (some ⟨L.tb t, 0, none⟩), .int .u64 (off : Int), .int .u64 (v : Int)] w (DPost w F o L (T + 1) (putP R off v) (.tuple #[])) := by
  generalize hpost : DPost w F o L (T + 1) (putP R off v) (.tuple #[]) = post
  replace hpost := Lib.hid hpost
  have hn2 := h.ok.n2
  have hi : off / 64 < R.lines.length := by omega
  have hq : off / 8 < R.curW.length := by rw [h.ok.curLen]; omega
  have c0 := (h.thr t ht).1.cell (o := 0) rfl
  have d1 := h.dev.cell (o := 1) rfl
  have d2 := h.dev.cell (o := 2) rfl
  obtain ⟨cs, hv', hL, hcl, hlin⟩ := h.lin
  obtain ⟨x0, x1, hsub, hrole⟩ := hlin _ hi
  have hhl := (h.ok.ln _ hi).hl
  have ht100 := h.ok.t
  have l1 := hL.cell x1
  have lf := hL.free (off / 64 * 2 + 1)
  have hlnI : ((off / 64 : Nat) : Int) < (R.lines.length : Int) := by omega
  have hqI : ((off / 8 : Nat) : Int) < ((R.lines.length * 8 : Nat) : Int) := by omega
  have cu := h.cur.cellAt (off / 8) (by omega)
  rw [u64s_get _ _ _ (get_of_lt 0 hq)] at cu
  have cuf := h.cur.frozenAt (off / 8)
  have nlc : L.lb ≠ L.cb := Own.ne h.fl h.fc (by simp)
  generalize hvv : hv' (off / 64) = hvl at *
  replace hvv := Lib.hid hvv
  generalize R.curW.getD (off / 8) 0 = old at *
  have hlg := hL.lt
  have hcg : L.cb < w.heap.size := ownsRow_lt h.cur rfl
  have hA := Has.new w [.int .u64 (off : Int), .int .u64 (v : Int)] 99
  have A0 := hA.cell (o := 0) rfl
  have A1 := hA.cell (o := 1) rfl
  have hsubA := hsub.alloc (.cells #[.int .u64 (off : Int), .int .u64 (v : Int)] 99)
  go_enter Try.func78, Try.ntmps78
  go_wp2_with (at_builtin; refine wpList_appSub rfl (.tmp 21) (.tmp 25) 63 rfl 99 (.agg #[.int .u64 0, .int .u64 0]) 2 16 Try.underlying63 infoW rfl (by decide) (by decide) hvl _ (wcells (R.line (off / 64)).hist) hsubA rfl _ 1 1 [.int .u64 off, .int .u64 v] rfl rfl ?hnews (by simp [Value.oneCell']) (by decide) ?hby ?_)
  case hnews =>
    intro j u hj
    match j, hj with
    | 0, hj => simp at hj; subst hj; exact A0
    | 1, hj => simp at hj; subst hj; exact A1
    | j + 2, hj => simp at hj
  case hby => omega
  intro b bo cap w1 hS1 hO1 hfr1
  have hO1' : Only (fun k => F k = some (o, 4, off / 64)) w w1 := ((Only.refl _ w).alloc _).trans' hO1 (fun k _ hk => hrole k hk)
  have hx1 : Ext w F (F.put b (o, 4, off / 64)) := by
    intro k hk
    unfold Own.put
    split
    · rename_i e; subst e
      rcases hfr1 with h1 | h1
      · exact (hrole k h1).symm
      · first | omega | (simp at h1; omega)
    · rfl
  have nS : ∀ {b : Nat} {r : Nat × Nat}, F b = some (o, r) → r.1 ≠ 4 → ¬ F b = some (o, 4, off / 64) := fun hb h4 h5 => by rw [hb] at h5; cases h5; exact h4 rfl
  have hL1 := hL.only hO1' (nS h.fl (by simp))
  have l1' := hL1.cell x1
  have lf' := hL1.free (off / 64 * 2 + 1)
  have hc1 := ownsRow_only h.cur hO1' (by rintro k hk; cases hk; exact nS h.fc (by simp))
  have cu1 := hc1.cellAt (off / 8) (by omega)
  rw [u64s_get _ _ _ (get_of_lt 0 hq)] at cu1
  have cuf1 := hc1.frozenAt (off / 8)
  have c01 := (h.thr t ht).1.only hO1' (nS (h.thr t ht).2 (by simp))
  have c01 := c01.cell (o := 0) rfl
  have d11 := h.dev.only hO1' (nS h.fg (by simp))
  have d11 := d11.cell (o := 1) rfl
  have bne : b ≠ L.lb ∧ b ≠ L.cb := by
    rcases hfr1 with h1 | h1
    · exact ⟨Own.ne (hrole b h1) h.fl (by simp), Own.ne (hrole b h1) h.fc (by simp)⟩
    · first | omega | (simp at h1; omega)
  have hL2 := hL1.set (off / 64 * 2 + 1) (.slice (some ⟨b, bo, none⟩) ((R.line (off / 64)).hist.length + 1) cap)
  have hc2 := ownsRow_only hc1 (Only.setAt w1 L.lb (off / 64 * 2 + 1) (.slice (some ⟨b, bo, none⟩) ((R.line (off / 64)).hist.length + 1) cap)) (by rintro k hk; cases hk; exact fun e => nlc e.symm)
  have hc3 := (hc2.stored (off / 8) (.int .u64 (v : Int))).1
  rw [← u64s_set] at hc3
  have hL3 := hL2.set_ne (a := ⟨L.cb, off / 8, none⟩) nlc (.int .u64 (v : Int))
  have hS3 := (hS1.only (Only.setAt w1 L.lb (off / 64 * 2 + 1) (.slice (some ⟨b, bo, none⟩) ((R.line (off / 64)).hist.length + 1) cap)) (by intro k hk; cases hk; exact bne.1)).only (Only.setAt _ L.cb (off / 8) (.int .u64 (v : Int))) (by intro k hk; cases hk; exact bne.2)
  have hO3 : Only (fun k => F k = some (o, 4, off / 64) ∨ k = L.lb ∨ k = L.cb) w ((w1.setCell ⟨L.lb, off / 64 * 2 + 1, none⟩ (.slice (some ⟨b, bo, none⟩) ((R.line (off / 64)).hist.length + 1) cap)).setCell ⟨L.cb, off / 8, none⟩ (.int .u64 (v : Int))) :=
    ((hO1'.mono (S' := fun k => F k = some (o, 4, off / 64) ∨ k = L.lb ∨ k = L.cb) (fun k _ hk => Or.inl hk)).setCell (a := ⟨L.lb, off / 64 * 2 + 1, none⟩) (fun _ => Or.inr (Or.inl rfl)) _).setCell (a := ⟨L.cb, off / 8, none⟩) (fun _ => Or.inr (Or.inr rfl)) _
  have hlin3 : LinSt ((w1.setCell ⟨L.lb, off / 64 * 2 + 1, none⟩ (.slice (some ⟨b, bo, none⟩) ((R.line (off / 64)).hist.length + 1) cap)).setCell ⟨L.cb, off / 8, none⟩ (.int .u64 (v : Int))) (F.put b (o, 4, off / 64)) o L.lb (putP R off v) := by
    refine LinSt.one (v := .slice (some ⟨b, bo, none⟩) ((R.line (off / 64)).hist.length + 1) cap) (hv := hv') (cs := cs) hi hcl hlin hL3 (by simp) ?_ ?_ ?_ ?_ ?_ hO3 hx1 ?_
    · intro j h1 h2; rw [List.getElem?_set_ne (fun e => h2 e.symm)]
    · rw [List.getElem?_set_ne (by omega)]; exact x0
    · exact List.getElem?_set_self (by rw [hcl]; omega)
    · simp only [putL, List.length_append, List.length_singleton, wcells_snoc]; exact hS3
    · intro k hk; cases hk; exact Own.put_at _ _ _
    · rintro k j (h1 | rfl | rfl) hj h2
      · rw [h1] at h2; cases h2; exact hj rfl
      · rw [h.fl] at h2; cases h2
      · rw [h.fc] at h2; cases h2
  have hD := h.put hT hof ha hv hO3 hx1 (fun k hk => hk) hlin3 hc3
  have hfin : post (.returned (.tuple #[])) ((w1.setCell ⟨L.lb, off / 64 * 2 + 1, none⟩ (.slice (some ⟨b, bo, none⟩) ((R.line (off / 64)).hist.length + 1) cap)).setCell ⟨L.cb, off / 8, none⟩ (.int .u64 (v : Int))) := by
    rw [← hpost.out]
    exact ⟨_, rfl, hD, hx1, hO3.mono (by
      rintro k _ (h1 | rfl | rfl)
      · exact ⟨_, h1⟩
      · exact ⟨_, h.fl⟩
      · exact ⟨_, h.fc⟩)⟩
  have nl2 : L.g ≠ L.lb := Own.ne h.fg h.fl (by simp)
  have nl3 : L.tb t ≠ L.lb := Own.ne (h.thr t ht).2 h.fl (by simp)
  replace hfin := Lib.hid hfin
  clear hD hlin3 hO3 hS3 hL3 hc3 hc2 hL2 hc1 hL1 hx1 hO1' hO1 hS1 hsubA hsub hlin hL h c0 d1 d2 l1 lf cu cuf A0 A1 hA
  go_wp2_with fail
  first | exact hfin.out | exact bodyPost_end (results_none rfl _ _ _) rfl hfin.out

set_option maxHeartbeats 2000000 in
theorem store_any (h : DevSt w F o L T R) (hT : T + 2 ≤ 100000) {t off v : Nat} (ht : t < 8) (hof : off < 18446744073709551616) (hv : v < 18446744073709551616) :
    Calls Try.prog 76 #[.pointer (some ⟨L.tb t, 0, none⟩), .int .u64 (off : Int), .int .u64 (v : Int)] w (DPost w F o L (T + 2) (storeP R t off v) (.tuple #[])) := by
  generalize hpost : DPost w F o L (T + 2) (storeP R t off v) (.tuple #[]) = post
  have c0 := (h.thr t ht).1.cell (o := 0) rfl
  have hw := Lib.hid (word_any h ht hof)
  have hco := counted_any w F o T t (R.isB off) L R h (by omega) ht
  by_cases hm : countB R (R.isB off) = true
  · have hin : off < 64 * R.lines.length ∧ off % 8 = 0 := by
      unfold countB at hm; simp only [Bool.and_eq_true] at hm
      have := hm.1.2
      unfold Dv.isB at this; simp only [decide_eq_true_eq] at this; exact ⟨this.2, this.1⟩
    have e3 : storeP R t off v = putP (countP R t (R.isB off)) off v := by unfold storeP; rw [if_pos hm]
    have elen := (countP_lines R t (R.isB off)).1
    rw [e3] at hpost
    rw [hm] at hco
    replace hpost := Lib.hid hpost
    replace hco := Lib.hid hco
    replace elen := Lib.hid elen
    clear h hm e3
    replace hin := Lib.hid hin
    go_enter Try.func76, Try.ntmps76
    go_wp2_with fail
    refine hw.out.mono ?_
    rintro e w' ⟨rfl, rfl⟩
    go_wp2_with fail
    refine hco.out.mono ?_
    rintro e w1 ⟨F1, rfl, h1, s1⟩
    have hwr := Lib.hid (write_any h1 (by omega) ht (by rw [elen.out]; exact hin.out.1) hin.out.2 hv)
    replace h1 := Lib.hid h1
    go_wp2_with fail
    refine hwr.out.mono ?_
    rintro e w2 ⟨F2, rfl, h2, s2⟩
    have hfin : post (.returned (.tuple #[])) w2 := by rw [← hpost.out]; exact ⟨F2, rfl, h2, s1.trans s2⟩
    replace hfin := Lib.hid hfin
    clear h2 s2
    go_wp2_with fail
    first | exact hfin.out | exact bodyPost_end (results_none rfl _ _ _) rfl hfin.out
  · have hm1 : countB R (R.isB off) = false := by simpa using hm
    have e3 : storeP R t off v = countP R t (R.isB off) := by unfold storeP; rw [if_neg hm]
    rw [e3] at hpost
    rw [hm1] at hco
    replace hpost := Lib.hid hpost
    replace hco := Lib.hid hco
    clear h hm hm1 e3
    go_enter Try.func76, Try.ntmps76
    go_wp2_with fail
    refine hw.out.mono ?_
    rintro e w' ⟨rfl, rfl⟩
    go_wp2_with fail
    refine hco.out.mono ?_
    rintro e w1 ⟨F1, rfl, h1, s1⟩
    have hfin : post (.returned (.tuple #[])) w1 := by rw [← hpost.out]; exact ⟨F1, rfl, h1.up (by omega) hT, s1⟩
    replace hfin := Lib.hid hfin
    clear h1 s1
    go_wp2_with fail
    first | exact hfin.out | exact bodyPost_end (results_none rfl _ _ _) rfl hfin.out
end Go.Proofs.Ytdminbjenbbpaaa
