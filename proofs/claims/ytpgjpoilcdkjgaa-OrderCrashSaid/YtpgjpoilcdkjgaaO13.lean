/- The walk of run.execute: flush. -/
import Derived.Test.YtpgjpoilcdkjgaaO12
import Derived.StillTailTactics
namespace Go.Proofs.Ytpgjpoilcdkjgaa
open Go.RowKit Go.Maps

/-- A region that draws its order, whose operations only read but for the last few, which have one order. -/
theorem region_tail {P : Program} {id : Nat} {Q : Exit → Act → World → Prop} {a : Act} {w : World} {l : List Oper} (n : Nat) (hm : P.follows .mixedOrders = true) (hB : Region.lexTailB .any l.toArray n = true)
    (h : wpStill P l.toArray w.drew (fun a' => wpList P l.toArray Q (l.drop n) a' w.drew) (l.take n) a) : (Code.region id l.toArray true).wp P Q a w :=
  wp_region_still_tail n hm hB h
theorem RunSt.note_cell {w : World} {B cb mb T t : Nat} {R : Rn} (h : RunSt w B cb mb T R) (ht : t < 8) : w.cell? ⟨B + 4, 2 + t, none⟩ = some (.map (some (B + 5 + t))) := by
  refine h.rb.cell ?_
  match t, ht with
  | 0, _ | 1, _ | 2, _ | 3, _ | 4, _ | 5, _ | 6, _ | 7, _ => rfl
/-- A map update as a step of a region that draws its order. -/
theorem step_update {H : Type} {P : Program} {w : World} {ops : Array Oper} {o : Oper} {a : Act} {K : Act → World → Prop} {Q : Exit → Act → World → Prop} {E : Prop} (hgd : o.guard = none) (m x v : Operand) (t k e : TypeId)
    (ho : o.op = Op.mapUpdate t m x v) (Ky : Keyed P k) (ht : P.underlying t = some (.map k e)) (R : Value → Option (DataW H × List MemPlace)) (b n : Nat) (D : DataW H)
    (hm : a.eval m = .map (some b)) (hown : w.ownsMap P k R b n D) (hn : n < maxLen) (key val : Value) (kl : Lit) (hx : a.eval x = key) (hv : a.eval v = val) (hkey : keyOf P k key = some kl)
    (d : DataW H) (ps : List MemPlace) (hval : R val = some (d, ps))
    (h : ∀ w', w'.ownsMap P k R b (n + 1) (D.put kl d) → Only (fun j => j = b) w w' → K (a.put o.dst undef) w') :
    if Region.wanted o (yielded ops a.tmps) = true then Oper.wp P o a w K Q else E := by
  have hw : Region.wanted o (yielded ops a.tmps) = true := by simp [Region.wanted, hgd]
  rw [if_pos hw]
  obtain ⟨w', hrun, r1, r2⟩ := hown.update Ky ht hn hkey hval
  unfold Oper.wp
  simp [execOp, ho, hm, hx, hv, hrun, Result.andThen]
  exact h w' r1 ((Only.of_grown r2).mono fun j _ e => by simpa using e)
theorem NoteV.put {w' : World} {b T n l c : Nat} {f : Nat → Option Nat} {D : DataW Unit} (hl : l < n) (hl2 : l < 9223372036854775808) (hD2 : IsMap D)
    (hD3 : ∀ kl : Lit, has D kl = true → ∃ k : Nat, k < n ∧ kl = .int .i64 k) (hD4 : ∀ k : Nat, has D (.int .i64 k) = (f k).isSome) (hD5 : ∀ k c : Nat, f k = some c → ∀ z, D.atKey (.int .i64 k) z = .lit (.int .i64 c))
    (h : w'.ownsMap Try.prog 3 (plainElem Try.prog 3) b T (D.put (.int .i64 l) (.lit (.int .i64 c)))) : NoteV w' b T n (fun k => if k = l then some c else f k) := by
  have hk := key3.key (keyOf_int_mk Try.underlying3 (wf_i64 hl2))
  refine ⟨_, h, hD2.put _ _, ?_, ?_, ?_⟩
  · intro kl hh
    by_cases he : kl = .int .i64 l
    · exact ⟨l, hl, he⟩
    · rw [has_put_other he] at hh; exact hD3 kl hh
  · intro k
    by_cases he : k = l
    · subst he; rw [has_put_same hD2 hk]; simp
    · rw [has_put_other (by intro h; injection h with _ h; omega)]; simp only [if_neg he]; exact hD4 k
  · intro k c' hc z
    simp only at hc
    by_cases he : k = l
    · subst he; rw [if_pos rfl] at hc; cases hc; exact atKey_put_same hD2 hk _ _
    · rw [if_neg he] at hc; rw [atKey_put_other (by intro h; injection h with _ h; omega)]; exact hD5 k c' hc z

theorem RunSt.put {w w' : World} {B cb mb T t l c : Nat} {R : Rn} (h : RunSt w B cb mb T R) (hT : T + 1 ≤ 20000) (ho : Only (fun k => k = B + 5 + t) w w') (ht : t < 8) (hl : l < R.G.n) (hc : c ≤ R.G.ct.getD l 0)
    (hn : NoteV w' (B + 5 + t) (T + 1) R.G.n (fun k => if k = l then some c else R.note t k)) : RunSt w' B cb mb (T + 1) (noteP R t l c) := by
  have hcm := h.cm
  obtain ⟨wa, wc, ra, rc, h1, h2, h3, h4, h5, h6⟩ := h.ex
  refine ⟨(noteP_ok h.ok hl hc).up hT, h.cm, h.rb.only ho (by omega), ⟨wa, wc, ra, rc, h1.only ho (by omega), ownsRow_only h2 ho ?_, ownsRow_only h3 ho ?_, h4, h5, h6⟩,
    h.ct.only ho (by omega), h.md.only ho (by omega), (h.cv.only ho (by omega)).up (by omega), fun t' ht' => ?_⟩
  · rintro k hk rfl; have := h4 _ hk; omega
  · rintro k hk rfl; have := h5 _ hk; omega
  · by_cases he : t' = t
    · subst he
      have e : (noteP R t' l c).note t' = fun k => if k = l then some c else R.note t' k := by
        funext k; simp [noteP]
      rw [e]; exact hn
    · have e : (noteP R t l c).note t' = R.note t' := by
        funext k; simp [noteP, he]
      rw [e]; exact ((h.nv t' ht').only ho (by omega)).up (by omega)

set_option maxHeartbeats 4000000 in
set_option maxRecDepth 100000 in
theorem exec3 (B cb mb T t off : Nat) (vv vo vl vn vc : Value) (R : Rn) (w : World) (h : RunSt w B cb mb T R) (hT : T + 1 ≤ 20000) (hof : off < 18446744073709551616) (htt : t < 8) :
    Calls Try.prog 42 #[.pointer (some ⟨B + 4, 0, none⟩), .agg #[.int .u8 3, .int .i64 t, .int .u64 off, vv, vo, vl, vn, vc]] w (ExPost w B cb mb T (if off < 64 * R.G.n then noteP R t (off / 64) (R.G.ct.getD (off / 64) 0) else R)) := by
  have ok := h.ok
  have hn2 := ok.n2
  have hsz := h.size
  have hcm := h.cm
  have hA := h.alloc (.cells #[.int .u8 3, .int .i64 t, .int .u64 off, vv, vo, vl, vn, vc] 65)
  have r0 := hA.rb.cell (o := 0) rfl
  obtain ⟨wa, wc, ra, rc, hg, _⟩ := hA.ex
  have g0 := hg.cell (o := 0) rfl
  have g3 := hg.cell (o := 3) rfl
  have hE := Has.new w [.int .u8 3, .int .i64 t, .int .u64 off, vv, vo, vl, vn, vc] 65
  have e0 := hE.cell (o := 0) rfl
  have e1 := hE.cell (o := 1) rfl
  have e2 := hE.cell (o := 2) rfl
  have hBa : Below B w (w.alloc (.cells #[.int .u8 3, .int .i64 t, .int .u64 off, vv, vo, vl, vn, vc] 65)) := (Below.refl _ _).alloc (by omega) _
  clear hg
  by_cases hin : off < 64 * R.G.n
  · rw [if_pos hin]
    have hd1 : decide ((off : Int) < (R.G.n : Int) * 64) = true := decide_eq_true (by omega)
    generalize hpost : ExPost w B cb mb T (noteP R t (off / 64) (R.G.ct.getD (off / 64) 0)) = post
    have hinI : (off : Int) < (R.G.n : Int) * 64 := by omega
    replace hpost := Lib.hid hpost
    have hl : off / 64 < R.G.ct.length := by rw [ok.cl]; omega
    have rn := hA.note_cell htt
    have hcc := hA.ct.cell (o := off / 64) (nats_get R.G.ct _ _ (get_of_lt 0 hl))
    obtain ⟨ln, hln⟩ : ∃ ln, ln = off / 64 := ⟨_, rfl⟩
    have hlI : (ln : Int) < (R.G.n : Int) := by omega
    have hl0 : (0 : Int) ≤ (ln : Int) := by omega
    have htI : (t : Int) < 8 := by omega
    have ht0 : (0 : Int) ≤ (t : Int) := by omega
    have hcontract := lineOf_q off
    rw [← hln] at hcc hl hcontract
    replace hln := Lib.hid hln
    generalize hcv : R.G.ct.getD ln 0 = cv at *
    replace hcv := Lib.hid hcv
    obtain ⟨D, hD1, hD2, hD3, hD4, hD5⟩ := hA.nv t htt
    replace hcontract := Lib.hid (fun w => hcontract w hof)
    replace hin := Lib.hid hin
    go_enter Try.func42, Try.ntmps42
    go_wp2_with fail
    go_quiet (fail)
    go_wp2_with (go_at_call 45; refine (hcontract.out _).mono ?_; rintro e w1 ⟨rfl, rfl⟩)
    refine region_tail 15 (by kernel_rfl) (by kernel_rfl) ?_
    simp only [List.take_succ_cons, List.take_zero, List.drop_succ_cons, List.drop_zero]
    repeat still_step
    refine wpStill_nil ?_
    have hcl : cv ≤ 20000 := by have := ok.cb _ (mem_getD 0 hl); have := ok.t; rw [hcv.out] at *; omega
    have hkey := keyOf_int_mk Try.underlying3 (a := (ln : Int)) (q := .i64) (P := Try.prog) (wf_i64 (by omega))
    have hval := plainElem_int (H := Unit) Try.underlying3 (a := (cv : Int)) (q := .i64) (P := Try.prog) (wf_i64 (by omega))
    have hD1' : ((w.alloc (.cells #[.int .u8 3, .int .i64 t, .int .u64 off, vv, vo, vl, vn, vc] 65)).drewN nq).drew.ownsMap Try.prog 3 (plainElem Try.prog 3) (B + 5 + t) T D := hD1
    go_wp2_with (at_mapUpdate; refine wpList_mapUpdate_own _ rfl _ _ _ 93 rfl 3 3 key3 Try.underlying93 _ (B + 5 + t) T D rfl hD1' (by unfold maxLen; omega) _ _ _ rfl rfl hkey _ [] hval ?_; intro w6 hown6 hgrow6)
    have O6 : Only (fun k => k = B + 5 + t) (w.alloc (.cells #[.int .u8 3, .int .i64 t, .int .u64 off, vv, vo, vl, vn, vc] 65)) w6 :=
      (((Only.refl (fun k => k = B + 5 + t) _).drewN nq).drew).trans ((Only.of_grown hgrow6).mono fun k _ e => by simpa using e)
    have hfin := RunSt.put (l := ln) (c := cv) hA hT O6 htt (by omega) (by rw [hcv.out]; exact Nat.le_refl _) (NoteV.put (by omega) (by omega) hD2 hD3 hD4 hD5 hown6)
    have hbl : Below B w w6 := hBa.trans (O6.below (by simp; omega) (by intro k _ e; omega))
    refine bodyPost_end (results_none rfl _ _ _) rfl ?_
    rw [← hpost.out, ← hln.out, hcv.out]
    exact ⟨rfl, hfin, hbl⟩
  · rw [if_neg hin]
    have hd1 : decide ((off : Int) < (R.G.n : Int) * 64) = false := decide_eq_false (by omega)
    generalize hpost : ExPost w B cb mb T R = post
    have hend : ∀ w', RunSt w' B cb mb (T + 1) R → Below B w w' → post (.returned (.tuple #[])) w' := by
      intro w' p1 p2; rw [← hpost]; exact ⟨rfl, p1, p2⟩
    have hx := Lib.hid (fun n => hend _ ((hA.up hT).drewN n) (below_drewN hBa n))
    have hinI : ¬ (off : Int) < (R.G.n : Int) * 64 := by omega
    clear hpost hend
    replace hin := Lib.hid hin
    go_enter Try.func42, Try.ntmps42
    go_wp2_with fail
    go_quiet (fail)
    go_wp2_with fail
    first | exact hx.out _ | exact bodyPost_end (results_none rfl _ _ _) rfl (hx.out _)
end Go.Proofs.Ytpgjpoilcdkjgaa
