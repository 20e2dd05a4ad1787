/- The walk of run.execute: fence. -/
import Derived.Test.YtpgjpoilcdkjgaaO14
namespace Go.Proofs.Ytpgjpoilcdkjgaa
open Go.RowKit Go.Maps

theorem wpList_clear {H : Type} {P : Program} {w : World} {ops : Array Oper} {rest : List Oper} {o : Oper} {a : Act} {Q : Exit → Act → World → Prop} (hgd : o.guard = none) (x : Operand) (t k e : TypeId)
    (ho : o.op = .call { callee := .builtin .clear, args := #[x], argTypes := #[t] }) (R : Value → Option (DataW H × List MemPlace)) (b n : Nat) (D : DataW H) (hx : a.eval x = .map (some b)) (hown : w.ownsMap P k R b n D) (ht : P.underlying t = some (.map k e))
    (h : ∀ w', w'.ownsMap P k R b 0 (.map []) → Only (fun j => j = b) w w' → wpList P ops Q rest (a.put o.dst (.tuple #[])) w') : wpList P ops Q (o :: rest) a w := by
  refine wpList_plain hgd fun K hK => ?_
  obtain ⟨w', hr, h2, h3⟩ := run_clear (P := P) o.type hown ht
  unfold Oper.wp execOp
  simp only [ho, resolve, invoke, builtin, Sem.run_bind, Sem.run_pure, Result.andThen_ok, List.map_toArray, List.map_cons, List.map_nil, hx, hr]
  exact hK _ _ (h w' h2 h3)
theorem grown_set {w0 w : World} {b : Nat} (h : w0.grownBy w (some b)) (a : Addr) (v : Value) (hb : a.block = b) : w0.grownBy (w.setCell a v) (some b) :=
  ⟨h.os, h.tape, h.output, by have := h.size; simpa using this, fun k hk hn => (heap_setCell_ne (fun e => hn (by rw [e, hb]))).trans (h.block k hk hn)⟩
theorem grown_drew (w : World) (b : Nat) : w.grownBy w.drew (some b) := ⟨rfl, rfl, rfl, Nat.le_refl _, fun _ _ _ => rfl⟩
theorem NoteV.none {w : World} {b T n : Nat} (h : w.ownsMap Try.prog 3 (plainElem (H := Unit) Try.prog 3) b 0 (.map [])) : NoteV w b T n (fun _ => none) :=
  ⟨.map [], h.mono (Nat.zero_le _), ⟨[], rfl⟩, fun kl hk => by simp [has] at hk, fun k => rfl, fun k c hc => by cases hc⟩

/-- What is mandatory while a fence goes through the notes that are left. -/
def midL (n : Nat) (md : List Nat) (note : Nat → Option Nat) (left : Lit → Bool) : List Nat :=
  (List.range n).map fun l => match note l with | none => md.getD l 0 | some c => if left (.int .i64 l) then md.getD l 0 else max (md.getD l 0) c
theorem midL_length (n : Nat) (md : List Nat) (note : Nat → Option Nat) (left : Lit → Bool) : (midL n md note left).length = n := by simp [midL]
theorem midL_get (n : Nat) (md : List Nat) (note : Nat → Option Nat) (left : Lit → Bool) (l : Nat) (h : l < n) :
    (midL n md note left)[l]? = some (match note l with | none => md.getD l 0 | some c => if left (.int .i64 l) then md.getD l 0 else max (md.getD l 0) c) := by
  unfold midL; rw [List.getElem?_map, List.getElem?_range h]; rfl
theorem midL_start (n : Nat) (md : List Nat) (hn : md.length = n) (note : Nat → Option Nat) (left : Lit → Bool) (h : ∀ l, (note l).isSome = true → left (.int .i64 l) = true) : midL n md note left = md := by
  apply List.ext_getElem?
  intro l
  by_cases hl : l < n
  · rw [midL_get n md note left l hl, get_of_lt 0 (by omega)]
    have := h l
    cases hq : note l with
    | none => rfl
    | some c => rw [hq] at this; simp only [this rfl, if_true]
  · rw [List.getElem?_eq_none (by rw [midL_length]; omega), List.getElem?_eq_none (by omega)]
theorem midL_end (R : Rn) (t : Nat) (left : Lit → Bool) (h : ∀ kl, left kl = false) : midL R.G.n R.G.md (R.note t) left = fenceL R t := by
  unfold midL fenceL
  apply List.map_congr_left
  intro l _
  cases R.note t l with
  | none => rfl
  | some c => simp [h]
theorem midL_at (n : Nat) (md : List Nat) (note : Nat → Option Nat) (left : Lit → Bool) (k : Nat) (hk : k < n) (hl : left (.int .i64 k) = true) : (midL n md note left)[k]? = some (md.getD k 0) := by
  rw [midL_get n md note left k hk]
  cases note k with
  | none => rfl
  | some c => simp only [hl, if_true]
theorem midL_step (n : Nat) (md : List Nat) (note : Nat → Option Nat) (left : Lit → Bool) (k c : Nat) (hk : k < n) (hc : note k = some c) :
    midL n md note (fun z => left z && !z.sameKey (.int .i64 k)) = (midL n md note left).set k (max (md.getD k 0) c) := by
  apply List.ext_getElem?
  intro l
  rw [List.getElem?_set, midL_length]
  by_cases hkl : k = l
  · subst hkl
    rw [if_pos rfl, if_pos hk, midL_get _ _ _ _ _ hk, hc]
    simp [Go.WideAt.sameKey_self (a := .int .i64 (k : Int)) trivial]
  · rw [if_neg hkl]
    by_cases hl : l < n
    · rw [midL_get _ _ _ _ _ hl, midL_get _ _ _ _ _ hl]
      have : (Lit.int .i64 (l : Int)).sameKey (.int .i64 (k : Int)) = false := sameKey_ne (by intro h; injection h with _ h; omega)
      simp only [this, Bool.not_false, Bool.and_true]
    · rw [List.getElem?_eq_none (by rw [midL_length]; omega), List.getElem?_eq_none (by rw [midL_length]; omega)]

theorem RunSt.fence {w w' : World} {B cb mb T t : Nat} {R : Rn} (h : RunSt w B cb mb T R) (hT : T + 1 ≤ 20000) (ht : t < 8) (ho : Only (fun k => k = mb ∨ k = B + 5 + t) w w') (hm : Has w' mb (nats (fenceL R t)) 3)
    (hn : w'.ownsMap Try.prog 3 (plainElem (H := Unit) Try.prog 3) (B + 5 + t) 0 (.map [])) : RunSt w' B cb mb (T + 1) (fenceP R t) := by
  have hcm := h.cm
  obtain ⟨wa, wc, ra, rc, h1, h2, h3, h4, h5, h6⟩ := h.ex
  refine ⟨(fenceP_ok h.ok).up hT, h.cm, h.rb.only ho (by omega), ⟨wa, wc, ra, rc, h1.only ho (by omega), ownsRow_only h2 ho ?_, ownsRow_only h3 ho ?_, h4, h5, h6⟩,
    h.ct.only ho (by omega), hm, (h.cv.only ho (by omega)).up (by omega), fun t' ht' => ?_⟩
  · intro k hk hs; have := h4 _ hk; omega
  · intro k hk hs; have := h5 _ hk; omega
  · by_cases he : t' = t
    · subst he
      have e : (fenceP R t').note t' = fun _ => none := by
        funext k; simp [fenceP]
      rw [e]; exact NoteV.none hn
    · have e : (fenceP R t).note t' = R.note t' := by
        funext k; simp [fenceP, he]
      rw [e]; exact ((h.nv t' ht').only ho (by omega)).up (by omega)
theorem RunSt.drew {w : World} {B cb mb T : Nat} {R : Rn} (h : RunSt w B cb mb T R) : RunSt w.drew B cb mb T R := h.only ((Only.refl (fun _ => False) w).drew) (fun _ _ h => h)

set_option maxHeartbeats 4000000 in
set_option maxRecDepth 100000 in
theorem exec4 (B cb mb T t : Nat) (vv vo vl vn vc : Value) (R : Rn) (w : World) (h : RunSt w B cb mb T R) (hT : T + 1 ≤ 20000) (ht : t < 8) :
    Calls Try.prog 42 #[.pointer (some ⟨B + 4, 0, none⟩), .agg #[.int .u8 4, .int .i64 t, .int .u64 0, vv, vo, vl, vn, vc]] w (ExPost w B cb mb T (fenceP R t)) := by
  have ok := h.ok
  have hn2 := ok.n2
  have hsz := h.size
  have hcm := h.cm
  have hA := h.alloc (.cells #[.int .u8 4, .int .i64 t, .int .u64 0, vv, vo, vl, vn, vc] 65)
  have r0 := hA.rb.cell (o := 0) rfl
  have hrn := hA.note_cell ht
  obtain ⟨wa, wc, ra, rc, hg, _⟩ := hA.ex
  have g0 := hg.cell (o := 0) rfl
  have hE := Has.new w [.int .u8 4, .int .i64 t, .int .u64 0, vv, vo, vl, vn, vc] 65
  have e0 := hE.cell (o := 0) rfl
  have e1 := hE.cell (o := 1) rfl
  have e2 := hE.cell (o := 2) rfl
  have hd0 : decide ((0 : Int) < (R.G.n : Int) * 64) = true := decide_eq_true (by have := ok.n1; omega)
  have hdI : (0 : Int) < (R.G.n : Int) * 64 := by have := ok.n1; omega
  have hBa : Below B w (w.alloc (.cells #[.int .u8 4, .int .i64 t, .int .u64 0, vv, vo, vl, vn, vc] 65)) := (Below.refl _ _).alloc (by omega) _
  have htI : (t : Int) < 8 := by omega
  have ht0 : (0 : Int) ≤ (t : Int) := by omega
  have hszA : B + 14 ≤ (w.alloc (.cells #[.int .u8 4, .int .i64 t, .int .u64 0, vv, vo, vl, vn, vc] 65)).heap.size := by simp; omega
  generalize hpost : ExPost w B cb mb T (fenceP R t) = post
  have hend : ∀ w', RunSt w' B cb mb (T + 1) (fenceP R t) → Below B w w' → post (.returned (.tuple #[])) w' := by
    intro w' p1 p2; rw [← hpost]; exact ⟨rfl, p1, p2⟩
  replace hend := Lib.hid hend
  clear hg hpost
  go_enter Try.func42, Try.ntmps42
  go_wp2_with fail
  go_quiet (fail)
  go_wp2_with fail
  refine region_tail 7 (by kernel_rfl) (by kernel_rfl) ?_
  simp only [List.take_succ_cons, List.take_zero, List.drop_succ_cons, List.drop_zero]
  repeat still_step
  refine wpStill_nil ?_
  have hQ : RunSt ((w.alloc (.cells #[.int .u8 4, .int .i64 t, .int .u64 0, vv, vo, vl, vn, vc] 65)).drewN nq).drew B cb mb T R := (hA.drewN nq).drew
  have hBq : Below B w ((w.alloc (.cells #[.int .u8 4, .int .i64 t, .int .u64 0, vv, vo, vl, vn, vc] 65)).drewN nq).drew := (below_drewN hBa (nq + 1))
  have f1 : ((w.alloc (.cells #[.int .u8 4, .int .i64 t, .int .u64 0, vv, vo, vl, vn, vc] 65)).drewN nq).drew.cell? ⟨w.heap.size, 1, none⟩ = some (.int .i64 t) := e1
  generalize hwq : ((w.alloc (.cells #[.int .u8 4, .int .i64 t, .int .u64 0, vv, vo, vl, vn, vc] 65)).drewN nq).drew = wq at *
  have hlt : w.heap.size < wq.heap.size := by rw [← hwq]; simp
  replace hwq := Lib.hid hwq
  clear hA hE e0 e1 e2 r0 hrn g0 hBa
  obtain ⟨D, hD1, hD2, hD3, hD4, hD5⟩ := hQ.nv t ht
  have hbl := hD1.lt
  refine wpList_range_own _ rfl _ 93 rfl 3 3 key3 Try.underlying93 _ (B + 5 + t) T D rfl hD1 ?_
  intro w0 hrg0 hg0 hs0
  go_wp2_with fail
  go_frame
  go_loopw [8] (fun _ wr => ∃ (left : Lit → Bool) (cnt : Nat), wr.ranges Try.prog 3 (plainElem Try.prog 3) (B + 5 + t) wq.heap.size T D left cnt ∧ (∀ kl, left kl = true → has D kl = true) ∧
      Has wr mb (nats (midL R.G.n R.G.md (R.note t) left)) 3 ∧ Only (fun k => k = mb) wq wr) (fun _ wr => wr.rangeLeft (B + 5 + t) wq.heap.size)
  case atStart =>
    have O0 : Only (fun k => k = mb) wq w0 := (Only.of_grown hg0).mono fun k _ e => by cases e
    refine ⟨_, _, hrg0, fun _ h => h, ?_, O0⟩
    rw [midL_start R.G.n R.G.md ok.ml (R.note t) _ (fun l hl => by rw [hD4]; exact hl)]
    exact hQ.md.only ((Only.of_grown hg0).mono (S' := fun _ => False) fun k _ e => by cases e) (fun h => h)
  case round =>
    obtain ⟨left, cnt, hrg, hsub, hmm, hO⟩ := hrel
    go_wp2_with (at_next; refine wpList_next_ranges_ii _ rfl _ rfl 3 3 .i64 .i64 key3 Try.underlying3 Try.underlying3 (B + 5 + t) wq.heap.size T _ _ _ rfl hrg ?_ ?_)
    · intro _ hl0
      rw [midL_end R t left hl0] at hmm
      have f1' := hO.cell f1 (by show ¬ w.heap.size = mb; omega)
      have frn := hO.cell (hQ.note_cell ht) (by show ¬ B + 4 = mb; omega)
      go_wp2_with fail
      refine region_tail 7 (by kernel_rfl) (by kernel_rfl) ?_
      simp only [List.take_succ_cons, List.take_zero, List.drop_succ_cons, List.drop_zero]
      repeat still_step
      refine wpStill_nil ?_
      refine wpList_clear rfl (.tmp 119) 93 3 3 rfl _ (B + 5 + t) T D rfl hrg.owns Try.underlying93 ?_
      intro w6 hown6 only6
      have O6 : Only (fun k => k = mb ∨ k = B + 5 + t) wq w6 := ((hO.mono (S' := fun k => k = mb ∨ k = B + 5 + t) fun k _ h => Or.inl h).drew).trans' only6 (fun k _ h => Or.inr h)
      have hfin := hend.out w6 (RunSt.fence hQ hT ht O6 (hmm.only (((Only.refl (fun j => j = B + 5 + t) wr).drew).trans only6) (by show ¬ mb = B + 5 + t; omega)) hown6)
        (hBq.trans (O6.below (by omega) (by intro k _ h; omega)))
      clear hmm
      go_wp2_with fail
      exact bodyPost_end (results_none rfl _ _ _) rfl hfin
    · intro x c w1 cnt1 hwx hwc hlx hat hrg1 hlt1 hg1 hs1 hen
      obtain ⟨k, hk, hxk⟩ := hD3 _ (hsub _ hlx)
      simp only [Lit.int.injEq, true_and] at hxk
      subst hxk
      obtain ⟨c', hc'⟩ : ∃ c', R.note t k = some c' := by
        have := hD4 k
        rw [hsub _ hlx] at this
        exact Option.isSome_iff_exists.1 this.symm
      have hcc : c = (c' : Int) := by
        have h1 := hat (.lit (.int .i64 0))
        rw [hD5 k c' hc'] at h1
        simp only [DataW.lit.injEq, Lit.int.injEq, true_and] at h1
        exact h1.symm
      subst hcc
      obtain ⟨_, hcle⟩ := ok.no _ _ _ hc'
      have hmbl := hQ.md.lt
      have O1 : Only (fun j => j = mb) wq w1 := hO.trans' (Only.of_grown hg1) (fun j hj e => by simp at e; omega)
      have hmm1 := hmm.only (Only.of_grown hg1) (by simp; omega)
      have hstep := midL_step R.G.n R.G.md (R.note t) left k c' hk hc'
      have hmid := midL_at R.G.n R.G.md (R.note t) left k hk hlx
      have hck := hmm1.cell (nats_get _ _ _ hmid)
      have hcf := hmm1.free k
      have hset := hmm1.drew.set k (.int .i64 ((max (R.G.md.getD k 0) c' : Nat) : Int))
      obtain ⟨wa, wc, ra, rc, hg, _⟩ := hQ.ex
      have g4 := O1.cell (hg.cell (o := 4) rfl) (by show ¬ B + 2 = mb; omega)
      have hcb : c' ≤ 20000 := by
        have h1 := ok.cb
        have h2 := ok.t
        have h3 : R.G.ct.getD k 0 ≤ T := h1 _ (mem_getD 0 (by rw [ok.cl]; exact hk))
        omega
      have hmvb : R.G.md.getD k 0 ≤ 20000 := by
        have h1 := ok.cb
        have h2 := ok.t
        have h3 : R.G.ct.getD k 0 ≤ T := h1 _ (mem_getD 0 (by rw [ok.cl]; exact hk))
        have h4 := ok.mc k
        omega
      have hrel := fun (wz : World) (g : w1.grownBy wz (some mb)) (hh : Has wz mb ((nats (midL R.G.n R.G.md (R.note t) left)).set k (.int .i64 ((max (R.G.md.getD k 0) c' : Nat) : Int))) 3) => (⟨fun z => left z && !z.sameKey (.int .i64 k), cnt1, hrg1.kept g (by simp; omega) (by simp; omega), fun kl h => hsub kl (by simp at h; exact h.1), by rw [hstep]; unfold nats at hh ⊢; rw [List.map_set]; exact hh, O1.trans ((Only.of_grown g).mono fun j _ e => by simpa using e)⟩ :
        ∃ (left : Lit → Bool) (cnt : Nat), wz.ranges Try.prog 3 (plainElem Try.prog 3) (B + 5 + t) wq.heap.size T D left cnt ∧ (∀ kl, left kl = true → has D kl = true) ∧ Has wz mb (nats (midL R.G.n R.G.md (R.note t) left)) 3 ∧ Only (fun k => k = mb) wq wz)
      have hmeas := fun (wz : World) (g : w1.grownBy wz (some mb)) => (show wz.rangeLeft (B + 5 + t) wq.heap.size < wr.rangeLeft (B + 5 + t) wq.heap.size by rw [(hrg1.kept g (by simp; omega) (by simp; omega)).left_eq, hrg.left_eq]; exact hlt1)
      replace hrel := Lib.hid hrel
      replace hmeas := Lib.hid hmeas
      replace hen := hen
      have hkn : (k : Int) < R.G.n := by omega
      clear hmid hstep hat hD1 hD2 hD3 hD4 hD5 hsub hlx hwx hwc hc' hg hmm hmm1 hg1 hrg1
      generalize R.G.md.getD k 0 = mv at *
      go_wp2_with fail
      refine region_tail 15 (by kernel_rfl) (by kernel_rfl) ?_
      simp only [List.take_succ_cons, List.take_zero, List.drop_succ_cons, List.drop_zero]
      repeat still_step
      refine wpStill_nil ?_
      go_wp2_with fail
      have hmax : (if mv < c' then (c' : Int) else (mv : Int)) = ((max mv c' : Nat) : Int) := by split <;> omega
      rw [hmax]
      have hgr : w1.grownBy (w1.setCell ⟨mb, k, none⟩ (.int .i64 ((max mv c' : Nat) : Int))).drew (some mb) := ⟨rfl, rfl, rfl, by simp, fun k _ hn => heap_setCell_ne (fun e => hn (by rw [e]))⟩
      exact ⟨hrel.out _ hgr hset, hmeas.out _ hgr⟩
end Go.Proofs.Ytpgjpoilcdkjgaa
