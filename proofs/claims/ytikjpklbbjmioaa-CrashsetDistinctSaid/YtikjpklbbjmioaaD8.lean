/- The program's device: CAS, persist. -/
import Derived.Test.YtikjpklbbjmioaaD7
import Derived.StillTailTactics
namespace Go.Proofs.Ytikjpklbbjmioaa
open Go.RowKit Go.Maps
variable {w : World} {F : Own} {o T : Nat} {L : Lay} {R : Dv}

theorem valueP_count (R : Dv) (t : Nat) (b : Bool) (off : Nat) : valueP (countP R t b) off = valueP R off := by unfold valueP; rw [countP_line]
set_option maxHeartbeats 4000000 in
theorem cas_any (h : DevSt w F o L T R) (hT : T + 2 ≤ 100000) {t off old v : Nat} (ht : t < 8) (hof : off < 18446744073709551616) (hv : v < 18446744073709551616) :
    Calls Try.prog 87 #[.pointer (some ⟨L.tb t, 0, none⟩), .int .u64 (off : Int), .int .u64 (old : Int), .int .u64 (v : Int)] w (DPost w F o L (T + 2) (casP R t off old v) (.bool (casB R off old))) := by
  generalize hpost : DPost w F o L (T + 2) (casP R t off old v) (.bool (casB R off old)) = post
  have c0 := (h.thr t ht).1.cell (o := 0) rfl
  have hw := Lib.hid (word_any h ht hof)
  have hco := counted_any w F o T t (R.isB off) L R h (by omega) ht
  by_cases hm : countB R (R.isB off) = true
  · have hin : off < 64 * R.lines.length ∧ off % 8 = 0 := by
      unfold countB at hm; simp only [Bool.and_eq_true] at hm
      have := hm.1.2
      unfold Dv.isB at this; simp only [decide_eq_true_eq] at this; exact ⟨this.2, this.1⟩
    have elen := (countP_lines R t (R.isB off)).1
    have hvp := valueP_count R t (R.isB off) off
    have e3 : casB R off old = decide (valueP R off = old) := by unfold casB; rw [hm]; rfl
    have e4 : casP R t off old v = if valueP R off = old then putP (countP R t (R.isB off)) off v else countP R t (R.isB off) := by unfold casP; rw [e3]; simp
    rw [hm] at hco
    have hn2 := h.ok.n2
    have ho8I : ((off / 8 : Nat) : Int) < ((R.lines.length * 8 : Nat) : Int) := by omega
    replace hco := Lib.hid hco
    replace elen := Lib.hid elen
    replace hvp := Lib.hid hvp
    clear h hm
    obtain ⟨hin1, hin2⟩ := hin
    replace hin2 := Lib.hid hin2
    by_cases hq : valueP R off = old
    · rw [e3, e4, if_pos hq, decide_eq_true hq] at hpost
      replace hpost := Lib.hid hpost
      clear e3 e4
      replace hq := Lib.hid hq
      go_enter Try.func87, Try.ntmps87
      go_wp2_with fail
      refine hw.out.mono ?_
      rintro e w' ⟨rfl, rfl⟩
      go_wp2_with fail
      refine hco.out.mono ?_
      rintro e w1 ⟨F1, rfl, h1, s1⟩
      have c0 := (h1.thr t ht).1.cell (o := 0) rfl
      have c1 := h1.dev.cell (o := 1) rfl
      have elo := elen.out
      have cc := h1.cur.cellAt (off / 8) (by rw [elo]; omega)
      rw [u64s_get _ _ _ (cur_at h1.ok (by rw [elo]; omega)), hvp.out, hq.out] at cc
      rw [elo] at c1
      replace elo := Lib.hid elo
      have hwr := Lib.hid (write_any h1 (by omega) ht (by rw [elen.out]; exact hin1) hin2.out hv)
      replace h1 := Lib.hid h1
      go_wp2_with fail
      refine hwr.out.mono ?_
      rintro e w2 ⟨F2, rfl, h2, s2⟩
      have hfin : post (.returned (.bool true)) w2 := by rw [← hpost.out]; exact ⟨F2, rfl, h2, s1.trans s2⟩
      replace hfin := Lib.hid hfin
      clear h2 s2
      go_wp2_with fail
      exact hfin.out
    · rw [e3, e4, if_neg hq, decide_eq_false hq] at hpost
      replace hpost := Lib.hid hpost
      clear e3 e4
      have hqI : ((valueP R off : Nat) : Int) ≠ (old : Int) := by omega
      have hqb : (((valueP R off : Nat) : Int) == (old : Int)) = false := by rw [beq_eq_false_iff_ne]; exact hqI
      have hqn : (((valueP R off : Nat) : Int) != (old : Int)) = true := by rw [bne_iff_ne]; exact hqI
      go_enter Try.func87, Try.ntmps87
      go_wp2_with fail
      refine hw.out.mono ?_
      rintro e w' ⟨rfl, rfl⟩
      go_wp2_with fail
      refine hco.out.mono ?_
      rintro e w1 ⟨F1, rfl, h1, s1⟩
      have c0 := (h1.thr t ht).1.cell (o := 0) rfl
      have c1 := h1.dev.cell (o := 1) rfl
      have elo := elen.out
      have cc := h1.cur.cellAt (off / 8) (by rw [elo]; omega)
      rw [u64s_get _ _ _ (cur_at h1.ok (by rw [elo]; omega)), hvp.out] at cc
      rw [elo] at c1
      replace elo := Lib.hid elo
      have hfin : post (.returned (.bool false)) w1 := by rw [← hpost.out]; exact ⟨F1, rfl, h1.up (by omega) hT, s1⟩
      replace hfin := Lib.hid hfin
      replace h1 := Lib.hid h1
      go_wp2_with fail
      exact hfin.out
  · have hm1 : countB R (R.isB off) = false := by simpa using hm
    have e3 : casB R off old = false := by unfold casB; rw [hm1]; rfl
    have e4 : casP R t off old v = countP R t (R.isB off) := by unfold casP; rw [e3]; simp
    rw [e3, e4] at hpost
    rw [hm1] at hco
    replace hpost := Lib.hid hpost
    replace hco := Lib.hid hco
    clear h hm hm1 e3 e4
    go_enter Try.func87, Try.ntmps87
    go_wp2_with fail
    refine hw.out.mono ?_
    rintro e w' ⟨rfl, rfl⟩
    go_wp2_with fail
    refine hco.out.mono ?_
    rintro e w1 ⟨F1, rfl, h1, s1⟩
    have hfin : post (.returned (.bool false)) w1 := by rw [← hpost.out]; exact ⟨F1, rfl, h1.up (by omega) hT, s1⟩
    replace hfin := Lib.hid hfin
    clear h1 s1
    go_wp2_with fail
    exact hfin.out

/-- A region that draws its order, whose operations only read but for the last few, which have one order. -/
theorem region_tail {P : Program} {id : Nat} {Q : Exit → Act → World → Prop} {a : Act} {w : World} {l : List Oper} (n : Nat) (hm : P.follows .mixedOrders = true) (hB : Region.lexTailB .any l.toArray n = true)
    (h : wpStill P l.toArray w.drew (fun a' => wpList P l.toArray Q (l.drop n) a' w.drew) (l.take n) a) : (Code.region id l.toArray true).wp P Q a w :=
  wp_region_still_tail n hm hB h
/-- The first stores of a line have been persisted. -/
theorem DevSt.persisted {w w' : World} {F : Own} {o T i k : Nat} {L : Lay} {R : Dv} (h : DevSt w F o L T R) (hi : i < R.lines.length) (hk : k ≤ (R.line i).hist.length)
    (ho : Only (fun k => k = L.lb ∨ k = L.pb) w w') (hlin : LinSt w' F o L.lb (R.setLine i (persistL (R.line i) k)))
    (hper : w'.ownsRow 0 22 1 (.slice (some ⟨L.pb, 0, none⟩) (R.lines.length * 8) L.pc) (R.lines.length * 8) (u64s (((R.line i).hist.take k).foldl setA R.perW))) :
    DevSt w' F o L T (R.setLine i (persistL (R.line i) k)) := by
  have ne : ∀ {b : Nat} {r : Nat × Nat}, F b = some (o, r) → r ≠ (3, 0) → r ≠ (1, 0) → ¬ (b = L.lb ∨ b = L.pb) := by
    rintro b r hb h3 h2 (rfl | rfl)
    · have := h.fl; rw [hb] at this; cases this; exact h3 rfl
    · have := h.fp; rw [hb] at this; cases this; exact h2 rfl
  have elen : (R.setLine i (persistL (R.line i) k)).lines.length = R.lines.length := setLine_len _ _ _
  refine ⟨persist_ok h.ok hi hk, ?_, h.fg, ?_, h.fp, ?_, h.fc, hlin, h.fl, fun t ht => ?_, fun t ht => ?_⟩
  · have : devCells L (R.setLine i (persistL (R.line i) k)) = devCells L R := by unfold devCells; rw [elen]; rfl
    rw [this]; exact h.dev.only ho (ne h.fg (by simp) (by simp))
  · rw [elen, persistP_per h.ok hi]; exact hper
  · rw [elen, persistP_cur hi hk]; exact ownsRow_only h.cur ho (by rintro b hb; cases hb; exact ne h.fc (by simp) (by simp))
  · obtain ⟨h1, h2⟩ := h.thr t ht; exact ⟨h1.only ho (ne h2 (by simp) (by simp)), h2⟩
  · obtain ⟨h1, h2⟩ := h.nov t ht
    rw [elen]
    exact ⟨h1.only ho (ne h2 (by simp) (by simp)), h2⟩
theorem SubV.shape {w : World} {e : TypeId} {size : Nat} {v : Value} {n : Nat} {xs : List Value} (h : SubV w e size v n xs) : (v = .slice none 0 0 ∧ n = 0) ∨ ∃ b off cap, v = .slice (some ⟨b, off, none⟩) n cap ∧ n ≤ cap ∧ cap ≤ maxLen := by
  rcases h.2 with h1 | ⟨b, off, cap, cur, hv, _, h1, h2, _⟩
  · exact .inl h1
  · exact .inr ⟨b, off, cap, hv, h1, h2⟩

/-- What persist leaves. -/
def PPost (w : World) (F : Own) (o : Nat) (L : Lay) (T : Nat) (R : Dv) (e : Ending) (w' : World) : Prop := e = .returned (.tuple #[]) ∧ DevSt w' F o L T R ∧ Only (fun k => k = L.lb ∨ k = L.pb) w w'
theorem DevSt.pp (h : DevSt w F o L T R) {R' : Dv} {e : Ending} {w' : World} {T' : Nat} (hp : PPost w F o L T' R' e w') : DPost w F o L T' R' (.tuple #[]) e w' :=
  ⟨F, hp.1, hp.2.1, Dstep.mk' hp.2.2 (by
    rintro b (rfl | rfl)
    · exact ⟨_, h.fl⟩
    · exact ⟨_, h.fp⟩)⟩
theorem persist_done (h : DevSt w F o L T R) {i k : Nat} (hi : i < R.lines.length) (hk : k ≤ (R.line i).hist.length) {w1 w3 : World} (hO1 : Only (fun k => k = L.pb) w w1)
    (hown1 : w1.ownsRow 0 22 1 (.slice (some ⟨L.pb, 0, none⟩) (R.lines.length * 8) L.pc) (R.lines.length * 8) (u64s (((R.line i).hist.take k).foldl setA R.perW))) (hO3 : Only (fun k => k = L.lb) w1 w3)
    {cs cs3 : List Value} {hv' : Nat → Value} {v : Value} (hcl : cs.length = R.lines.length * 2)
    (hlin : ∀ j, j < R.lines.length → cs[j * 2]? = some (.int .u64 ((R.line j).done : Int)) ∧ cs[j * 2 + 1]? = some (hv' j) ∧ SubV w 144 2 (hv' j) (R.line j).hist.length (wcells (R.line j).hist) ∧ ∀ k, (hv' j).ownBlock = some k → F k = some (o, 4, j))
    (hL3 : Has w3 L.lb cs3 137) (hcl3 : cs3.length = cs.length) (hcs : ∀ j, j ≠ i * 2 → j ≠ i * 2 + 1 → cs3[j]? = cs[j]?) (hc0 : cs3[i * 2]? = some (.int .u64 (((R.line i).done + k : Nat) : Int))) (hc1 : cs3[i * 2 + 1]? = some v)
    (hsub : SubV w 144 2 v ((R.line i).hist.drop k).length (wcells ((R.line i).hist.drop k))) (hr : ∀ k, v.ownBlock = some k → F k = some (o, 4, i)) :
    PPost w F o L T (R.setLine i (persistL (R.line i) k)) (.returned (.tuple #[])) w3 := by
  have nlp : L.lb ≠ L.pb := Own.ne h.fl h.fp (by simp)
  have hO : Only (fun k => k = L.lb ∨ k = L.pb) w w3 := (hO1.mono (S' := fun k => k = L.lb ∨ k = L.pb) fun _ _ e => Or.inr e).trans' hO3 (fun _ _ e => Or.inl e)
  have hl3 : LinSt w3 F o L.lb (R.setLine i (persistL (R.line i) k)) := by
    refine LinSt.one (S := fun k => k = L.lb ∨ k = L.pb) (w := w) (F := F) (v := v) (hv := hv') (cs := cs) (cs' := cs3) hi hcl hlin hL3 hcl3 hcs hc0 hc1 ?_ hr hO (Ext.refl _ _) ?_
    · refine hsub.only hO ?_
      rintro b hb (rfl | rfl)
      · have := hr _ hb; rw [h.fl] at this; cases this
      · have := hr _ hb; rw [h.fp] at this; cases this
    · rintro b j (rfl | rfl) _ hb
      · rw [h.fl] at hb; cases hb
      · rw [h.fp] at hb; cases hb
  exact ⟨rfl, h.persisted hi hk hO hl3 (ownsRow_only hown1 hO3 (by rintro b hb; cases hb; exact fun e => nlp e.symm)), hO⟩

set_option maxHeartbeats 4000000 in
set_option maxRecDepth 100000 in
theorem persist_any (h : DevSt w F o L T R) {i k : Nat} (hi : i < R.lines.length) (hk : k ≤ (R.line i).hist.length) :
    Calls Try.prog 107 #[.pointer (some ⟨L.g, 0, none⟩), .int .i64 (i : Int), .int .i64 (k : Int)] w (PPost w F o L T (R.setLine i (persistL (R.line i) k))) := by
  generalize hpost : PPost w F o L T (R.setLine i (persistL (R.line i) k)) = post
  replace hpost := Lib.hid hpost
  have hn2 := h.ok.n2
  have d0 := h.dev.cell (o := 0) rfl
  have d2 := h.dev.cell (o := 2) rfl
  obtain ⟨cs, hv', hL, hcl, hlin⟩ := h.lin
  obtain ⟨x0, x1, hsub, hrole⟩ := hlin _ hi
  have hok := h.ok.ln _ hi
  have hhl := hok.hl
  have ht100 := h.ok.t
  have l1 := hL.cell x1
  have hiI : (i : Int) < (R.lines.length : Int) := by omega
  have nlp : L.lb ≠ L.pb := Own.ne h.fl h.fp (by simp)
  have hsh := hsub.shape
  have hperl : R.perW.length = R.lines.length * 8 := by have := h.ok.perLen; omega
  have hps : ∀ p ∈ (R.line i).hist.take k, p.1 / 8 < R.lines.length * 8 ∧ p.1 < 18446744073709551616 ∧ p.2 < 18446744073709551616 := fun p hp => by
    obtain ⟨q1, q2, q3⟩ := hok.h p (List.mem_of_mem_take hp); omega
  have hpl : ((R.line i).hist.take k).length = k := by rw [List.length_take]; omega
  rcases hsh with ⟨hv0, hn0⟩ | ⟨b, bo, cap, hv0, hnc, hcm⟩
  · obtain rfl : k = 0 := by omega
    rw [hv0] at l1
    have hap := apply_any w.drew L.pb L.pc (R.lines.length * 8) R.perW h.per none 0 [] (Rd.nil w) (by intro k hk; cases hk) (by omega) (by simp) (by simp)
    replace hap := Lib.hid hap
    rw [show ((0 : Nat) : Int) = 0 from rfl]
    go_enter Try.func107, Try.ntmps107
    go_wp2_with fail
    refine region_tail 10 (by kernel_rfl) (by kernel_rfl) ?_
    simp only [List.take_succ_cons, List.take_zero, List.drop_succ_cons, List.drop_zero]
    repeat still_step
    refine wpStill_nil ?_
    go_wp2_with fail
    refine hap.out.mono ?_
    rintro e w1 ⟨rfl, hown1, hO1⟩
    have hO1 : Only (fun k => k = L.pb) w w1 := ((Only.refl _ w).drew).trans hO1
    have hL1 := hL.only hO1 nlp
    have k0 := hL1.cell x0
    have k1 := hL1.cell x1
    rw [hv0] at k1
    have f0 := hL1.free (i * 2)
    have f1 := hL1.free (i * 2 + 1)
    have hfin : post (.returned (.tuple #[])) (((w1.setCell ⟨L.lb, i * 2, none⟩ (.int .u64 ((R.line i).done : Int))).setCell ⟨L.lb, i * 2 + 1, none⟩ (.slice none 0 0)).setCell ⟨L.lb, i * 2 + 1, none⟩ (.slice none 0 0)) := by
      rw [← hpost.out]
      have hn : (R.line i).hist = [] := List.eq_nil_of_length_eq_zero hn0
      refine persist_done h hi hk hO1 hown1 (((Only.setAt w1 L.lb (i * 2) _).trans (Only.setAt _ L.lb (i * 2 + 1) _)).trans (Only.setAt _ L.lb (i * 2 + 1) _)) (v := .slice none 0 0) hcl hlin (((hL1.set (i * 2) _).set (i * 2 + 1) _).set (i * 2 + 1) _) (by simp) ?_ ?_ ?_ ?_ (by intro k hk; cases hk)
      · intro j h1 h2; rw [List.getElem?_set_ne (fun e => h2 e.symm), List.getElem?_set_ne (fun e => h2 e.symm), List.getElem?_set_ne (fun e => h1 e.symm)]
      · rw [List.getElem?_set_ne (by omega), List.getElem?_set_ne (by omega), List.getElem?_set_self (by rw [hcl]; omega)]; rfl
      · rw [List.getElem?_set_self (by simp; rw [hcl]; omega)]
      · rw [hn]; exact SubV.nil _ _ _
    replace hfin := Lib.hid hfin
    clear hL1 hO1 hown1 hap hps hpl h hlin hsub
    go_wp2_with fail
    first | exact hfin.out | exact bodyPost_end (results_none rfl _ _ _) rfl hfin.out
  · have hap := apply_any w.drew L.pb L.pc (R.lines.length * 8) R.perW h.per (some ⟨b, bo, none⟩) cap ((R.line i).hist.take k) (by
        rw [hpl]
        have h0 := hsub.rd
        rw [hv0] at h0
        obtain ⟨a, c, e1, h2⟩ := h0
        simp only [Value.slice.injEq, true_and] at e1
        obtain ⟨rfl, rfl⟩ := e1
        refine ⟨_, _, rfl, ?_⟩
        rcases h2 with ⟨h3, _⟩ | ⟨b', o', h3, h4⟩
        · exact .inl ⟨by omega, by rw [List.length_eq_zero_iff.1 (show ((R.line i).hist.take k).length = 0 by omega)]; rfl⟩
        · refine .inr ⟨b', o', h3, fun j u hj => h4 j u ?_⟩
          rw [← wcells_take] at hj
          rw [List.getElem?_take] at hj
          split at hj
          · exact hj
          · cases hj) (by
        rintro k' hk'
        have hb' : b = k' := by simpa [Value.ownBlock] using hk'
        intro e
        have := hrole b (by rw [hv0]; rfl)
        rw [hb', e, h.fp] at this; cases this) (by omega) (by omega) hps
    rw [hpl] at hap
    have hbr : F b = some (o, 4, i) := hrole b (by rw [hv0]; rfl)
    have hnc0 : k ≤ cap := by omega
    have hkI : (k : Int) ≤ 100000 := by omega
    have hkc : (k : Int) ≤ (cap : Int) := by omega
    have hkh : (k : Int) ≤ ((R.line i).hist.length : Int) := by omega
    have hdI : ((R.line i).done : Int) ≤ 100000 := by omega
    unfold maxLen at hcm
    have hcmI : (cap : Int) ≤ 9223372036854775807 := by omega
    by_cases hkl : k < (R.line i).hist.length
    · have hkc2 : ¬ cap = k := by omega
      have hz : (((R.line i).hist.length - k : Nat) == 0) = false := by rw [beq_eq_false_iff_ne]; omega
      have hz2 : (((((R.line i).hist.length - k : Nat)) : Int) == 0) = false := by rw [beq_eq_false_iff_ne]; omega
      rw [hv0] at l1
      replace hap := Lib.hid hap
      go_enter Try.func107, Try.ntmps107
      go_wp2_with fail
      refine region_tail 10 (by kernel_rfl) (by kernel_rfl) ?_
      simp only [List.take_succ_cons, List.take_zero, List.drop_succ_cons, List.drop_zero]
      repeat still_step
      refine wpStill_nil ?_
      go_wp2_with fail
      refine hap.out.mono ?_
      rintro e w1 ⟨rfl, hown1, hO1⟩
      have hO1 : Only (fun k => k = L.pb) w w1 := ((Only.refl _ w).drew).trans hO1
      have hL1 := hL.only hO1 nlp
      have k0 := hL1.cell x0
      have k1 := hL1.cell x1
      rw [hv0] at k1
      have f0 := hL1.free (i * 2)
      have f1 := hL1.free (i * 2 + 1)
      have hfin : post (.returned (.tuple #[])) ((w1.setCell ⟨L.lb, i * 2, none⟩ (.int .u64 (((R.line i).done : Int) + (k : Int)))).setCell ⟨L.lb, i * 2 + 1, none⟩ (.slice (some ⟨b, bo + k * 2, none⟩) ((R.line i).hist.length - k) (cap - k))) := by
        rw [← hpost.out]
        have hs := hsub
        rw [hv0] at hs
        have hs2 := hs.from (k := k) (by omega)
        rw [wcells_drop] at hs2
        refine persist_done h hi hk hO1 hown1 ((Only.setAt w1 L.lb (i * 2) _).trans (Only.setAt _ L.lb (i * 2 + 1) _)) hcl hlin ((hL1.set (i * 2) _).set (i * 2 + 1) _) (by simp) ?_ ?_ (List.getElem?_set_self (by simp; rw [hcl]; omega)) ?_ ?_
        · intro j h1 h2; rw [List.getElem?_set_ne (fun e => h2 e.symm), List.getElem?_set_ne (fun e => h1 e.symm)]
        · rw [List.getElem?_set_ne (by omega), List.getElem?_set_self (by rw [hcl]; omega)]; rfl
        · rw [List.length_drop]; exact hs2
        · intro k' hk'; cases hk'; exact hbr
      replace hfin := Lib.hid hfin
      clear hL1 hO1 hown1 hap hps hpl h hlin hsub
      go_wp2_with fail
      first | exact hfin.out | exact bodyPost_end (results_none rfl _ _ _) rfl hfin.out
    · obtain rfl : k = (R.line i).hist.length := by omega
      generalize hhn : (R.line i).hist.length = hn at *
      have hz : ((hn - hn : Nat) == 0) = true := by rw [beq_iff_eq]; omega
      replace hhn := Lib.hid hhn
      rw [hv0] at l1
      replace hap := Lib.hid hap
      by_cases hkc2 : cap = hn
      · subst hkc2
        go_enter Try.func107, Try.ntmps107
        go_wp2_with fail
        refine region_tail 10 (by kernel_rfl) (by kernel_rfl) ?_
        simp only [List.take_succ_cons, List.take_zero, List.drop_succ_cons, List.drop_zero]
        repeat still_step
        refine wpStill_nil ?_
        go_wp2_with fail
        refine hap.out.mono ?_
        rintro e w1 ⟨rfl, hown1, hO1⟩
        have hO1 : Only (fun k => k = L.pb) w w1 := ((Only.refl _ w).drew).trans hO1
        have hL1 := hL.only hO1 nlp
        have k0 := hL1.cell x0
        have k1 := hL1.cell x1
        rw [hv0] at k1
        have f0 := hL1.free (i * 2)
        have f1 := hL1.free (i * 2 + 1)
        have hfin : post (.returned (.tuple #[])) (((w1.setCell ⟨L.lb, i * 2, none⟩ (.int .u64 (((R.line i).done : Int) + (cap : Int)))).setCell ⟨L.lb, i * 2 + 1, none⟩ (.slice (some ⟨b, bo, none⟩) 0 0)).setCell ⟨L.lb, i * 2 + 1, none⟩ (.slice none 0 0)) := by
          rw [← hpost.out]
          refine persist_done h hi (Nat.le_of_eq hhn.out.symm) hO1 hown1 (((Only.setAt w1 L.lb (i * 2) _).trans (Only.setAt _ L.lb (i * 2 + 1) _)).trans (Only.setAt _ L.lb (i * 2 + 1) _)) (v := .slice none 0 0) hcl hlin (((hL1.set (i * 2) _).set (i * 2 + 1) _).set (i * 2 + 1) _) (by simp) ?_ ?_ ?_ ?_ (by intro k hk; cases hk)
          · intro j h1 h2; rw [List.getElem?_set_ne (fun e => h2 e.symm), List.getElem?_set_ne (fun e => h2 e.symm), List.getElem?_set_ne (fun e => h1 e.symm)]
          · rw [List.getElem?_set_ne (by omega), List.getElem?_set_ne (by omega), List.getElem?_set_self (by rw [hcl]; omega)]; rfl
          · rw [List.getElem?_set_self (by simp; rw [hcl]; omega)]
          · have e0 : (R.line i).hist.drop cap = [] := List.drop_eq_nil_of_le (by have := hhn.out; omega)
            rw [e0]; exact SubV.nil _ _ _
        replace hfin := Lib.hid hfin
        clear hL1 hO1 hown1 hap hps hpl h hlin hsub
        go_wp2_with fail
        first | exact hfin.out | exact bodyPost_end (results_none rfl _ _ _) rfl hfin.out
      · have hkc3 : ¬ cap = hn := hkc2
        go_enter Try.func107, Try.ntmps107
        go_wp2_with fail
        refine region_tail 10 (by kernel_rfl) (by kernel_rfl) ?_
        simp only [List.take_succ_cons, List.take_zero, List.drop_succ_cons, List.drop_zero]
        repeat still_step
        refine wpStill_nil ?_
        go_wp2_with fail
        refine hap.out.mono ?_
        rintro e w1 ⟨rfl, hown1, hO1⟩
        have hO1 : Only (fun k => k = L.pb) w w1 := ((Only.refl _ w).drew).trans hO1
        have hL1 := hL.only hO1 nlp
        have k0 := hL1.cell x0
        have k1 := hL1.cell x1
        rw [hv0] at k1
        have f0 := hL1.free (i * 2)
        have f1 := hL1.free (i * 2 + 1)
        have hfin : post (.returned (.tuple #[])) (((w1.setCell ⟨L.lb, i * 2, none⟩ (.int .u64 (((R.line i).done : Int) + (hn : Int)))).setCell ⟨L.lb, i * 2 + 1, none⟩ (.slice (some ⟨b, bo + hn * 2, none⟩) 0 (cap - hn))).setCell ⟨L.lb, i * 2 + 1, none⟩ (.slice none 0 0)) := by
          rw [← hpost.out]
          refine persist_done h hi (Nat.le_of_eq hhn.out.symm) hO1 hown1 (((Only.setAt w1 L.lb (i * 2) _).trans (Only.setAt _ L.lb (i * 2 + 1) _)).trans (Only.setAt _ L.lb (i * 2 + 1) _)) (v := .slice none 0 0) hcl hlin (((hL1.set (i * 2) _).set (i * 2 + 1) _).set (i * 2 + 1) _) (by simp) ?_ ?_ ?_ ?_ (by intro k hk; cases hk)
          · intro j h1 h2; rw [List.getElem?_set_ne (fun e => h2 e.symm), List.getElem?_set_ne (fun e => h2 e.symm), List.getElem?_set_ne (fun e => h1 e.symm)]
          · rw [List.getElem?_set_ne (by omega), List.getElem?_set_ne (by omega), List.getElem?_set_self (by rw [hcl]; omega)]; rfl
          · rw [List.getElem?_set_self (by simp; rw [hcl]; omega)]
          · have e0 : (R.line i).hist.drop hn = [] := List.drop_eq_nil_of_le (by have := hhn.out; omega)
            rw [e0]; exact SubV.nil _ _ _
        replace hfin := Lib.hid hfin
        clear hL1 hO1 hown1 hap hps hpl h hlin hsub
        go_wp2_with fail
        first | exact hfin.out | exact bodyPost_end (results_none rfl _ _ _) rfl hfin.out
end Go.Proofs.Ytikjpklbbjmioaa
