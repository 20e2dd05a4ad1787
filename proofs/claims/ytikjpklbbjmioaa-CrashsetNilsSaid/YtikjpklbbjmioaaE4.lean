/- The reference's device: put, Store, CAS. -/
import Derived.Test.YtikjpklbbjmioaaE3
import Derived.Test.YtikjpklbbjmioaaD8
import Derived.Test.YtikjpklbbjmioaaD12
namespace Go.Proofs.Ytikjpklbbjmioaa
open Go.RowKit Go.Maps
variable {w : World} {F : Own} {o h T : Nat} {R : Dv}

theorem bcell2 {w w' : World} (hB : Below w.heap.size w w') {a : Addr} {v : Value} (h : w.cell? a = some v) : w'.cell? a = some v := by
  have hlt := World.block_lt_of_cell? _ _ h
  exact (hB.cell (p := a) hlt).trans h
/-- One line has changed in its block. -/
theorem RLinSt.one {w w' : World} {F F' : Own} {lb lc i : Nat} {cs cs' : List Value} {hv : Nat → Value} {S : Nat → Prop} {l : Ln} {v : Value} (hi : i < R.lines.length)
    (h3 : ∀ j, j < R.lines.length → (∀ q, q < 8 → cs[j * 10 + q]? = some (.int .u64 ((wat (R.line j).base q : Nat) : Int))) ∧ cs[j * 10 + 8]? = some (hv j) ∧ cs[j * 10 + 9]? = some (.int .i64 ((R.line j).done : Int)) ∧ RdO w F (o, 2, j) (hv j) (R.line j).hist.length (wcells (R.line j).hist))
    (hown : w'.ownsRow 0 122 10 (.slice (some ⟨lb, 0, none⟩) R.lines.length lc) R.lines.length cs') (hcs : ∀ q, (q < i * 10 ∨ i * 10 + 10 ≤ q) → cs'[q]? = cs[q]?)
    (hb : ∀ q, q < 8 → cs'[i * 10 + q]? = some (.int .u64 ((wat l.base q : Nat) : Int))) (h8 : cs'[i * 10 + 8]? = some v) (h9 : cs'[i * 10 + 9]? = some (.int .i64 (l.done : Int))) (hrd : RdO w' F' (o, 2, i) v l.hist.length (wcells l.hist))
    (ho : Only S w w') (hx : Ext w F F') (hs : ∀ k j, S k → j ≠ i → F k ≠ some (o, 2, j)) : RLinSt w' F' o lb lc (R.setLine i l) := by
  refine ⟨cs', fun j => if j = i then v else hv j, by rw [setLine_len]; exact hown, fun j hj => ?_⟩
  rw [setLine_len] at hj
  rw [setLine_line l hi]
  by_cases e : j = i
  · subst e; simp only [if_true]; exact ⟨hb, h8, h9, hrd⟩
  · obtain ⟨a, b, c, d⟩ := h3 j hj
    simp only [if_neg e]
    refine ⟨fun q hq => ?_, ?_, ?_, d.kept ho hx (fun k s => hs k j s e)⟩
    · rw [hcs _ (by omega)]; exact a q hq
    · rw [hcs _ (by omega)]; exact b
    · rw [hcs _ (by omega)]; exact c
theorem RefSt.line {w w' : World} {F F' : Own} {i T' : Nat} {l : Ln} (hr : RefSt w F o h T R) (hi : i < R.lines.length) (hk : (R.setLine i l).Ok T') {lb lc : Nat} {ns : Nat → Value}
    (h1 : Has w h (refCells lb lc ns R) 110) (h3 : F lb = some (o, 1, 0)) (h4 : ∀ t, t < 8 → RdO w F (o, 3, t) (ns t) (R.notes.getD t []).length (noteCells (R.notes.getD t [])))
    (ho : Only (fun k => k = lb) w w') (hx : Ext w F F') (hlt : lb < w.heap.size) (hl : RLinSt w' F' o lb lc (R.setLine i l)) : RefSt w' F' o h T' (R.setLine i l) := by
  have _h := hi
  have ne : ∀ {b : Nat} {r : Nat × Nat}, F b = some (o, r) → r ≠ (1, 0) → ¬ b = lb := fun hb hr' => Own.ne hb h3 (fun e => hr' (by cases e; rfl))
  refine ⟨hk, ⟨lb, lc, ns, ?_, hl, (hx _ hlt).trans h3, fun t ht => (h4 t ht).kept ho hx (fun k s e => ne e (by simp) s)⟩, (hx _ h1.lt).trans hr.fh⟩
  have : refCells lb lc ns (R.setLine i l) = refCells lb lc ns R := by unfold refCells; rw [setLine_len]; rfl
  rw [this]; exact h1.only ho (ne hr.fh (by simp))

set_option maxHeartbeats 4000000 in
set_option maxRecDepth 100000 in
theorem rput_any (hr : RefSt w F o h T R) (hT : T + 1 ≤ 100000) {off v : Nat} (hof : off < 64 * R.lines.length) (ha : off % 8 = 0) (hv : v < 18446744073709551616) :
    Calls Try.prog 52 #[.pointer (some ⟨h, 0, none⟩), .int .u64 (off : Int), .int .u64 (v : Int)] w (RPost w F o h (T + 1) (putP R off v) (.tuple #[])) := by
  generalize hpost : RPost w F o h (T + 1) (putP R off v) (.tuple #[]) = post
  replace hpost := Lib.hid hpost
  have hn2 := hr.ok.n2
  have hi : off / 64 < R.lines.length := by omega
  have hok := hr.ok.ln _ hi
  have hhl := hok.hl
  have ht100 := hr.ok.t
  have hputok := putP_ok hr.ok hT hof ha hv
  obtain ⟨lb, lc, ns, h1, h2, h3, h4⟩ := hr.ex
  have c := h1.cell (refCells_lines lb lc ns R)
  obtain ⟨cs, hv', hown, hlin⟩ := h2
  obtain ⟨x0, x8, x9, hrd⟩ := hlin _ hi
  have hcl := hown.1
  have hlbl := ownsRow_lt hown (k := lb) rfl
  obtain ⟨va, vc, hva, hrd0⟩ := hrd.1
  have c8 := hown.cellAt (off / 64 * 10 + 8) (by omega)
  rw [x8, hva] at c8
  have f8 := hown.frozenAt (off / 64 * 10 + 8)
  have hiI : ((off / 64 : Nat) : Int) < (R.lines.length : Int) := by omega
  have hE := own_empty w 165 2
  have hrdA : Rd (w.alloc (.cells #[] 165)) (.slice va (R.line (off / 64)).hist.length vc) (R.line (off / 64)).hist.length (wcells (R.line (off / 64)).hist) := by
    have := hrd.1.kept ((Below.refl _ _).alloc (Nat.le_refl _) (.cells #[] 165)); rw [hva] at this; exact this
  replace hva := Lib.hid hva
  go_enter Try.func52, Try.ntmps52
  go_wp2_with (at_builtin; refine wpList_appAll rfl (.tmp 15) (.tmp 19) 120 rfl 165 (.agg #[.int .u64 0, .int .u64 0]) 2 16 Try.underlying120 infoRW rfl (by decide) (by decide) _ 0 0 (Nat.le_refl _) [] hE rfl _ (R.line (off / 64)).hist.length vc (wcells (R.line (off / 64)).hist) rfl hrdA (wcells_len _) (wcells_one _) (by omega) ?_)
  intro sa cap w1 hcap hown1 only1 fresh1
  have hB1 : Below w.heap.size w w1 := ((Below.refl w.heap.size w).alloc (Nat.le_refl _) _).trans (only1.below (by simp) (fun k hk e => by simp [Value.ownBlock] at e; omega))
  have hA := Has.new w1 [.int .u64 (off : Int), .int .u64 (v : Int)] 165
  have A0 := hA.cell (o := 0) rfl
  have A1 := hA.cell (o := 1) rfl
  have hown1A := hown1.alloc (.cells #[.int .u64 (off : Int), .int .u64 (v : Int)] 165)
  clear hE hrdA
  go_wp2_with (at_builtin; refine wpList_app rfl (.tmp 20) (.tmp 24) 120 rfl 165 (.agg #[.int .u64 0, .int .u64 0]) 2 16 Try.underlying120 infoRW rfl (by decide) (by decide) sa _ cap _ hown1A rfl _ 1 1 [.int .u64 off, .int .u64 v] rfl rfl ?hnews (by simp [Value.oneCell']) ?hby ?_)
  case hnews =>
    intro j u hj
    match j, hj with
    | 0, hj => simp at hj; subst hj; exact A0
    | 1, hj => simp at hj; subst hj; exact A1
    | j + 2, hj => simp at hj
  case hby => omega
  intro sb capb w2 hown2 only2 fresh2
  rw [← wcells_snoc (R.line (off / 64)).hist (off, v)] at hown2
  have hs1 := hB1.size
  have hfr1 : ∀ k, Value.ownBlock (.slice sa (R.line (off / 64)).hist.length cap) = some k → w.heap.size ≤ k := by
    intro k hk
    rcases fresh1 k hk with h5 | h5
    · first | omega | (simp [Value.ownBlock] at h5; omega)
    · first | omega | (simp at h5; omega)
  have hB2 : Below w.heap.size w w2 := (hB1.alloc hs1 _).trans (only2.below (by simp; omega) (fun k _ e => hfr1 k e))
  have hfr2 : ∀ k, Value.ownBlock (.slice sb ((R.line (off / 64)).hist.length + 1) capb) = some k → w.heap.size ≤ k := by
    intro k hk
    rcases fresh2 k hk with h5 | h5
    · exact hfr1 k h5
    · have := hB1.size; first | omega | (simp at h5; omega)
  have c8' := bcell2 hB2 c8
  have f8' : w2.frozen? ⟨lb, off / 64 * 10 + 8, none⟩ = false := by rw [hB2.frozen (p := ⟨lb, off / 64 * 10 + 8, none⟩) hlbl]; exact f8
  have hown0 := ownsRow_only hown (Only.of_below hB2) (by intro k hk; cases hk; exact Nat.not_le.2 hlbl)
  have hst := (hown0.stored (off / 64 * 10 + 8) (.slice sb ((R.line (off / 64)).hist.length + 1) capb)).1
  have hrd2 : Rd (w2.setCell ⟨lb, off / 64 * 10 + 8, none⟩ (.slice sb ((R.line (off / 64)).hist.length + 1) capb)) (.slice sb ((R.line (off / 64)).hist.length + 1) capb) ((R.line (off / 64)).hist.length + 1) (wcells ((R.line (off / 64)).hist ++ [(off, v)])) :=
    (Rd.of_own hown2).only (Only.setAt w2 lb (off / 64 * 10 + 8) _) (by intro k hk e; have := hfr2 k hk; omega)
  obtain ⟨bn, hbn⟩ : ∃ bn, sb = some ⟨bn, 0, none⟩ := by
    rcases hown2.2 with ⟨_, h5⟩ | ⟨g, cp, cur, h5, _⟩
    · omega
    · simp only [Value.slice.injEq] at h5; exact ⟨g, h5.1⟩
  have hfb := hfr2 bn (by rw [hbn]; rfl)
  have hx : Ext w F (F.put bn (o, 2, off / 64)) := (Ext.refl w F).put hfb _
  have hO : Only (fun k => k = lb) w (w2.setCell ⟨lb, off / 64 * 10 + 8, none⟩ (.slice sb ((R.line (off / 64)).hist.length + 1) capb)) :=
    Only.setCell (S := fun k => k = lb) (a := ⟨lb, off / 64 * 10 + 8, none⟩) ⟨hB2.os, hB2.tape, hB2.output, hB2.size, fun k hk _ => hB2.block k hk⟩ (fun _ => rfl) _
  have hlin2 : RLinSt (w2.setCell ⟨lb, off / 64 * 10 + 8, none⟩ (.slice sb ((R.line (off / 64)).hist.length + 1) capb)) (F.put bn (o, 2, off / 64)) o lb lc (putP R off v) := by
    refine RLinSt.one (v := .slice sb ((R.line (off / 64)).hist.length + 1) capb) (hv := hv') (cs := cs) hi hlin hst ?_ ?_ ?_ ?_ ?_ hO hx ?_
    · intro q hq; rw [List.getElem?_set_ne (by omega)]
    · intro q hq; rw [List.getElem?_set_ne (by omega)]; exact x0 q hq
    · exact List.getElem?_set_self (by omega)
    · rw [List.getElem?_set_ne (by omega)]; exact x9
    · refine ⟨by simp only [putL, List.length_append, List.length_singleton]; exact hrd2, fun _ k hk => ?_, own_cap hown2⟩
      rw [hbn] at hk; cases hk; exact Own.put_at _ _ _
    · rintro k j rfl _ e; rw [h3] at e; cases e
  have hfin : post (.returned (.tuple #[])) (w2.setCell ⟨lb, off / 64 * 10 + 8, none⟩ (.slice sb ((R.line (off / 64)).hist.length + 1) capb)) := by
    rw [← hpost.out]
    exact ⟨_, rfl, hr.line hi hputok h1 h3 h4 hO hx hlbl hlin2, hx, hO.mono (by rintro k _ rfl; exact ⟨_, h3⟩)⟩
  replace hfin := Lib.hid hfin
  replace hbn := Lib.hid hbn
  clear hlin2 hO hx hrd2 hst hown0 hB2 hown2 only2 fresh2 hown1A hown1 only1 fresh1 hA A0 A1 hB1 hlin hown hr h1 h4 c c8 f8 hrd hrd0
  go_wp2_with fail
  first | exact hfin.out | exact bodyPost_end (results_none rfl _ _ _) rfl hfin.out

set_option maxHeartbeats 2000000 in
theorem rstore_any (hr : RefSt w F o h T R) (hT : T + 2 ≤ 100000) {t off v : Nat} (ht : t < 8) (hof : off < 18446744073709551616) (hv : v < 18446744073709551616) :
    Calls Try.prog 19 #[.pointer (some ⟨h, 0, none⟩), .int .i64 (t : Int), .int .u64 (off : Int), .int .u64 (v : Int)] w (RPost w F o h (T + 2) (storeP R t off v) (.tuple #[])) := by
  generalize hpost : RPost w F o h (T + 2) (storeP R t off v) (.tuple #[]) = post
  have hw := Lib.hid (ris_any hr hof)
  have hco := rcounted_any hr (by omega) (R.isB off) ht
  by_cases hm : countB R (R.isB off) = true
  · have hin : off < 64 * R.lines.length ∧ off % 8 = 0 := by
      unfold countB at hm; simp only [Bool.and_eq_true] at hm
      have := hm.1.2
      unfold Dv.isB at this; simp only [decide_eq_true_eq] at this; exact ⟨this.2, this.1⟩
    have e3 : storeP R t off v = putP (countP R t (R.isB off)) off v := by unfold storeP; rw [if_pos hm]
    have elen := (countP_lines R t (R.isB off)).1
    rw [e3] at hpost
    rw [hm] at hco
    replace hpost := Lib.hid hpost
    replace hco := Lib.hid hco
    replace elen := Lib.hid elen
    clear hr hm e3
    replace hin := Lib.hid hin
    go_enter Try.func19, Try.ntmps19
    go_wp2_with fail
    refine hw.out.mono ?_
    rintro e w' ⟨rfl, rfl⟩
    go_wp2_with fail
    refine hco.out.mono ?_
    rintro e w1 ⟨F1, rfl, h1, s1⟩
    have hwr := Lib.hid (rput_any h1 (by omega) (by rw [elen.out]; exact hin.out.1) hin.out.2 hv)
    replace h1 := Lib.hid h1
    go_wp2_with fail
    refine hwr.out.mono ?_
    rintro e w2 ⟨F2, rfl, h2, s2⟩
    have hfin : post (.returned (.tuple #[])) w2 := by rw [← hpost.out]; exact ⟨F2, rfl, h2, s1.trans s2⟩
    replace hfin := Lib.hid hfin
    clear h2 s2
    go_wp2_with fail
    first | exact hfin.out | exact bodyPost_end (results_none rfl _ _ _) rfl hfin.out
  · have hm1 : countB R (R.isB off) = false := by simpa using hm
    have e3 : storeP R t off v = countP R t (R.isB off) := by unfold storeP; rw [if_neg hm]
    rw [e3] at hpost
    rw [hm1] at hco
    replace hpost := Lib.hid hpost
    replace hco := Lib.hid hco
    clear hr hm hm1 e3
    go_enter Try.func19, Try.ntmps19
    go_wp2_with fail
    refine hw.out.mono ?_
    rintro e w' ⟨rfl, rfl⟩
    go_wp2_with fail
    refine hco.out.mono ?_
    rintro e w1 ⟨F1, rfl, h1, s1⟩
    have hfin : post (.returned (.tuple #[])) w1 := by rw [← hpost.out]; exact ⟨F1, rfl, h1.up (by omega) hT, s1⟩
    replace hfin := Lib.hid hfin
    clear h1 s1
    go_wp2_with fail
    first | exact hfin.out | exact bodyPost_end (results_none rfl _ _ _) rfl hfin.out

set_option maxHeartbeats 4000000 in
theorem rcas_any (hr : RefSt w F o h T R) (hT : T + 2 ≤ 100000) {t off old v : Nat} (ht : t < 8) (hof : off < 18446744073709551616) (hv : v < 18446744073709551616) :
    Calls Try.prog 88 #[.pointer (some ⟨h, 0, none⟩), .int .i64 (t : Int), .int .u64 (off : Int), .int .u64 (old : Int), .int .u64 (v : Int)] w (RPost w F o h (T + 2) (casP R t off old v) (.bool (casB R off old))) := by
  generalize hpost : RPost w F o h (T + 2) (casP R t off old v) (.bool (casB R off old)) = post
  have hw := Lib.hid (ris_any hr hof)
  have hco := rcounted_any hr (by omega) (R.isB off) ht
  by_cases hm : countB R (R.isB off) = true
  · have hin : off < 64 * R.lines.length ∧ off % 8 = 0 := by
      unfold countB at hm; simp only [Bool.and_eq_true] at hm
      have := hm.1.2
      unfold Dv.isB at this; simp only [decide_eq_true_eq] at this; exact ⟨this.2, this.1⟩
    have elen := (countP_lines R t (R.isB off)).1
    have hvp := valueP_count R t (R.isB off) off
    have e3 : casB R off old = decide (valueP R off = old) := by unfold casB; rw [hm]; rfl
    have e4 : casP R t off old v = if valueP R off = old then putP (countP R t (R.isB off)) off v else countP R t (R.isB off) := by unfold casP; rw [e3]; simp
    rw [hm] at hco
    replace hco := Lib.hid hco
    replace elen := Lib.hid elen
    replace hvp := Lib.hid hvp
    clear hr hm
    replace hin := Lib.hid hin
    by_cases hq : valueP R off = old
    · rw [e3, e4, if_pos hq, decide_eq_true hq] at hpost
      replace hpost := Lib.hid hpost
      clear e3 e4
      replace hq := Lib.hid hq
      go_enter Try.func88, Try.ntmps88
      go_wp2_with fail
      refine hw.out.mono ?_
      rintro e w' ⟨rfl, rfl⟩
      go_wp2_with fail
      refine hco.out.mono ?_
      rintro e w1 ⟨F1, rfl, h1, s1⟩
      have hva := rvalue_any h1 (by rw [elen.out]; exact hin.out.1)
      rw [hvp.out, hq.out] at hva
      replace hva := Lib.hid hva
      replace h1 := Lib.hid h1
      go_wp2_with fail
      refine hva.out.mono ?_
      rintro e w2 ⟨rfl, hB⟩
      have h2 := h1.out.below hB
      have hwr := Lib.hid (rput_any h2 (by omega) (by rw [elen.out]; exact hin.out.1) hin.out.2 hv)
      replace h2 := Lib.hid h2
      replace hB := Lib.hid hB
      go_wp2_with fail
      refine hwr.out.mono ?_
      rintro e w3 ⟨F3, rfl, h3, s3⟩
      have hfin : post (.returned (.bool true)) w3 := by rw [← hpost.out]; exact ⟨F3, rfl, h3, (s1.trans (Dstep.below hB.out)).trans s3⟩
      replace hfin := Lib.hid hfin
      clear h3 s3
      go_wp2_with fail
      exact hfin.out
    · rw [e3, e4, if_neg hq, decide_eq_false hq] at hpost
      replace hpost := Lib.hid hpost
      clear e3 e4
      have hqI : ((valueP R off : Nat) : Int) ≠ (old : Int) := by omega
      have hqb : (((valueP R off : Nat) : Int) == (old : Int)) = false := by rw [beq_eq_false_iff_ne]; exact hqI
      have hqn : (((valueP R off : Nat) : Int) != (old : Int)) = true := by rw [bne_iff_ne]; exact hqI
      go_enter Try.func88, Try.ntmps88
      go_wp2_with fail
      refine hw.out.mono ?_
      rintro e w' ⟨rfl, rfl⟩
      go_wp2_with fail
      refine hco.out.mono ?_
      rintro e w1 ⟨F1, rfl, h1, s1⟩
      have hva := rvalue_any h1 (by rw [elen.out]; exact hin.out.1)
      rw [hvp.out] at hva
      replace hva := Lib.hid hva
      replace h1 := Lib.hid h1
      go_wp2_with fail
      refine hva.out.mono ?_
      rintro e w2 ⟨rfl, hB⟩
      have hfin : post (.returned (.bool false)) w2 := by rw [← hpost.out]; exact ⟨F1, rfl, (h1.out.below hB).up (by omega) hT, s1.trans (Dstep.below hB)⟩
      replace hfin := Lib.hid hfin
      clear hB
      go_wp2_with fail
      exact hfin.out
  · have hm1 : countB R (R.isB off) = false := by simpa using hm
    have e3 : casB R off old = false := by unfold casB; rw [hm1]; rfl
    have e4 : casP R t off old v = countP R t (R.isB off) := by unfold casP; rw [e3]; simp
    rw [e3, e4] at hpost
    rw [hm1] at hco
    replace hpost := Lib.hid hpost
    replace hco := Lib.hid hco
    clear hr hm hm1 e3 e4
    go_enter Try.func88, Try.ntmps88
    go_wp2_with fail
    refine hw.out.mono ?_
    rintro e w' ⟨rfl, rfl⟩
    go_wp2_with fail
    refine hco.out.mono ?_
    rintro e w1 ⟨F1, rfl, h1, s1⟩
    have hfin : post (.returned (.bool false)) w1 := by rw [← hpost.out]; exact ⟨F1, rfl, h1.up (by omega) hT, s1⟩
    replace hfin := Lib.hid hfin
    clear h1 s1
    go_wp2_with fail
    exact hfin.out
end Go.Proofs.Ytikjpklbbjmioaa
