/- The program's device: fail, on, counted, word, Size, Lines. -/
import Derived.Test.YtikjpklbbjmioaaD2
import Derived.BigRegion
import Derived.BigQuiet
import Derived.Deep.QuietTactic
import Derived.Outline
namespace Go.Proofs.Ytikjpklbbjmioaa
open Go.RowKit Go.Maps

/-- Blocks of object o. -/
def Mine (F : Own) (o k : Nat) : Prop := ∃ r, F k = some (o, r)
/-- What a call that works on object o does to the heap. -/
structure Dstep (w : World) (F : Own) (o : Nat) (w' : World) (F' : Own) : Prop where
  ext : Ext w F F'
  only : Only (Mine F o) w w'
theorem Dstep.refl (w : World) (F : Own) (o : Nat) : Dstep w F o w F := ⟨Ext.refl _ _, Only.refl _ _⟩
theorem Dstep.trans {w w1 w2 : World} {F F1 F2 : Own} {o : Nat} (h : Dstep w F o w1 F1) (h' : Dstep w1 F1 o w2 F2) : Dstep w F o w2 F2 :=
  ⟨h.ext.trans h'.ext h.only.size, h.only.trans' h'.only fun k hk ⟨r, s⟩ => ⟨r, by rw [← h.ext k hk]; exact s⟩⟩
theorem Dstep.drewN {w w1 : World} {F F1 : Own} {o : Nat} (h : Dstep w F o w1 F1) (n : Nat) : Dstep w F o (w1.drewN n) F1 := ⟨h.ext, h.only.drewN n⟩
theorem Dstep.alloc {w w1 : World} {F F1 : Own} {o : Nat} (h : Dstep w F o w1 F1) (x : Obj) : Dstep w F o (w1.alloc x) F1 := ⟨h.ext, h.only.alloc x⟩
theorem Dstep.set {w w1 : World} {F F1 : Own} {o : Nat} (h : Dstep w F o w1 F1) {a : Addr} {r : Nat × Nat} (ha : F1 a.block = some (o, r)) (v : Value) : Dstep w F o (w1.setCell a v) F1 :=
  ⟨h.ext, h.only.setCell (fun hk => ⟨r, by rw [← h.ext _ hk]; exact ha⟩) v⟩
theorem Dstep.below {w w1 : World} {F : Own} {o : Nat} (h : Below w.heap.size w w1) : Dstep w F o w1 F :=
  ⟨Ext.refl _ _, ⟨h.os, h.tape, h.output, h.size, fun k hk _ => h.block k hk⟩⟩
theorem Dstep.mk' {S : Nat → Prop} {w w1 : World} {F : Own} {o : Nat} (h : Only S w w1) (hs : ∀ k, S k → Mine F o k) : Dstep w F o w1 F := ⟨Ext.refl _ _, h.mono fun k _ s => hs k s⟩
theorem DevSt.other {w w' : World} {F F' : Own} {o o' T : Nat} {L : Lay} {R : Dv} (h : DevSt w F o L T R) (hd : Dstep w F o' w' F') (hn : o ≠ o') : DevSt w' F' o L T R :=
  h.kept hd.only hd.ext fun k r ⟨s, e⟩ e' => by rw [e] at e'; cases e'; exact hn rfl
theorem RefSt.other {w w' : World} {F F' : Own} {o o' h T : Nat} {R : Dv} (hr : RefSt w F o h T R) (hd : Dstep w F o' w' F') (hn : o ≠ o') : RefSt w' F' o h T R :=
  hr.kept hd.only hd.ext fun k r ⟨s, e⟩ e' => by rw [e] at e'; cases e'; exact hn rfl
/-- Below B there is no block of any object. -/
def Free (F : Own) (B : Nat) : Prop := ∀ k, k < B → F k = none
theorem Free.step {w w' : World} {F F' : Own} {o B : Nat} (h : Free F B) (hd : Dstep w F o w' F') (hB : B ≤ w.heap.size) : Free F' B := fun k hk => (hd.ext k (by omega)).trans (h k hk)
theorem Free.below {w w' : World} {F F' : Own} {o B : Nat} (h : Free F B) (hd : Dstep w F o w' F') (hB : B ≤ w.heap.size) : Below B w w' :=
  hd.only.below hB fun k hk ⟨r, s⟩ => by
    rcases Nat.lt_or_ge k B with h1 | h1
    · rw [h k h1] at s; cases s
    · exact h1

def DPost (w : World) (F : Own) (o : Nat) (L : Lay) (T : Nat) (R : Dv) (v : Value) (e : Ending) (w' : World) : Prop :=
  ∃ F', e = .returned v ∧ DevSt w' F' o L T R ∧ Dstep w F o w' F'
def RPost (w : World) (F : Own) (o h T : Nat) (R : Dv) (v : Value) (e : Ending) (w' : World) : Prop :=
  ∃ F', e = .returned v ∧ RefSt w' F' o h T R ∧ Dstep w F o w' F'

/-- The device's own block has changed. -/
theorem DevSt.re {w w' : World} {F : Own} {o T T' : Nat} {L : Lay} {R R' : Dv} (h : DevSt w F o L T R) (ho : Only (fun k => k = L.g) w w') (hd : Has w' L.g (devCells L R') 94) (hl : R'.lines = R.lines) (hn : R'.notes = R.notes) (he : R'.errs = R.errs) (hk : R'.Ok T') (hT : T ≤ T') :
    DevSt w' F o L T' R' := by
  have hx := Ext.refl w F
  have ne : ∀ {b : Nat} {r : Nat × Nat}, F b = some (o, r) → r ≠ (0, 0) → ¬ b = L.g := fun hb hr => Own.ne hb h.fg (fun e => hr (by cases e; rfl))
  have e1 : R'.perW = R.perW := by unfold Dv.perW; rw [hl]
  have e2 : R'.curW = R.curW := by unfold Dv.curW; rw [hl]
  have e3 : ∀ t, thrCells L R' t = thrCells L R t := fun t => by unfold thrCells; rw [he]
  have e4 : ∀ i, R'.line i = R.line i := fun i => by unfold Dv.line; rw [hl]
  refine ⟨hk, hd, h.fg, ?_, h.fp, ?_, h.fc, ?_, h.fl, fun t ht => ?_, fun t ht => ?_⟩
  · rw [hl, e1]; exact ownsRow_only h.per ho (by rintro k hk s; cases hk; exact ne h.fp (by simp) s)
  · rw [hl, e2]; exact ownsRow_only h.cur ho (by rintro k hk s; cases hk; exact ne h.fc (by simp) s)
  · have := h.lin.kept h.fl ho hx (fun k s => ⟨fun e => ne e (by simp) s, fun i e => ne e (by simp) s⟩)
    unfold LinSt at *
    simp only [hl, e4]; exact this
  · rw [e3]; exact ⟨(h.thr t ht).1.only ho (fun s => ne (h.thr t ht).2 (by simp) s), (h.thr t ht).2⟩
  · rw [hl, hn]; exact ⟨((h.nov t ht).1.only ho (fun s => ne (h.nov t ht).2 (by simp) s)).up hT, (h.nov t ht).2⟩
/-- A thread's error has been set. -/
theorem DevSt.err {w w' : World} {F : Own} {o T : Nat} {L : Lay} {R : Dv} (h : DevSt w F o L T R) {t e : Nat} (ht : t < 8) (he : e = 2 ∨ e = 3) (ho : Only (fun k => k = L.tb t) w w') (hd : Has w' (L.tb t) ((thrCells L R t).set 2 (.int .i64 (e : Int))) 97) :
    DevSt w' F o L T { R with errs := R.errs.set t e } := by
  have hx := Ext.refl w F
  have ht5 := (h.thr t ht).2
  have ne : ∀ {b : Nat} {r : Nat × Nat}, F b = some (o, r) → r ≠ (5, t) → ¬ b = L.tb t := fun hb hr => Own.ne hb ht5 (fun e => hr (by cases e; rfl))
  refine ⟨?_, ?_, h.fg, ?_, h.fp, ?_, h.fc, ?_, h.fl, fun t' ht' => ?_, fun t' ht' => ?_⟩
  · exact ⟨h.ok.t, h.ok.n1, h.ok.n2, h.ok.ln, h.ok.nl, h.ok.nd, h.ok.no, by simpa using h.ok.el, fun x hx => by
      rcases List.mem_or_eq_of_mem_set hx with h1 | rfl
      · exact h.ok.ev x h1
      · exact .inr he, h.ok.l1, h.ok.l2, h.ok.x⟩
  · exact h.dev.only ho (fun s => ne h.fg (by simp) s)
  · exact ownsRow_only h.per ho (by rintro k hk s; cases hk; exact ne h.fp (by simp) s)
  · exact ownsRow_only h.cur ho (by rintro k hk s; cases hk; exact ne h.fc (by simp) s)
  · exact h.lin.kept h.fl ho hx (fun k s => ⟨fun e => ne e (by simp) s, fun i e => ne e (by simp) s⟩)
  · by_cases e5 : t' = t
    · subst e5
      refine ⟨?_, ht5⟩
      have e6 : thrCells L { R with errs := R.errs.set t' e } t' = (thrCells L R t').set 2 (.int .i64 (e : Int)) := by
        unfold thrCells
        simp only [getD_set R.errs t' t' e 0 (by rw [h.ok.el]; exact ht'), if_true]
        rfl
      rw [e6]; exact hd
    · have e6 : thrCells L { R with errs := R.errs.set t e } t' = thrCells L R t' := by
        unfold thrCells
        simp only [getD_set R.errs t t' e 0 (by rw [h.ok.el]; exact ht), if_neg e5]
      rw [e6]; exact ⟨(h.thr t' ht').1.only ho (fun s => ne (h.thr t' ht').2 (by simp [e5]) s), (h.thr t' ht').2⟩
  · exact ⟨(h.nov t' ht').1.only ho (fun s => ne (h.nov t' ht').2 (by simp) s), (h.nov t' ht').2⟩

theorem Only.setAt (w : World) (b o : Nat) (v : Value) : Only (fun k => k = b) w (w.setCell ⟨b, o, none⟩ v) := Only.setCell (S := fun k => k = b) (Only.refl _ w) (a := ⟨b, o, none⟩) (fun _ => rfl) v
theorem ret_post {post : Ending → World → Prop} {e e' : Ending} {w : World} (h : post e w) (he : e = e') : post e' w := he ▸ h
theorem end_post {post : Ending → World → Prop} {v v' : Value} {w : World} (h : post (.returned v) w) (he : v = v') : post (.returned v') w := he ▸ h

set_option maxHeartbeats 1000000 in
theorem fail_any (w : World) (F : Own) (o T t e : Nat) (L : Lay) (R : Dv) (h : DevSt w F o L T R) (ht : t < 8) (he : e = 2 ∨ e = 3) :
    Calls Try.prog 98 #[.pointer (some ⟨L.tb t, 0, none⟩), .int .i64 (e : Int)] w (DPost w F o L T (failP R t e) (.tuple #[])) := by
  generalize hpost : DPost w F o L T (failP R t e) (.tuple #[]) = post
  have hth := (h.thr t ht).1
  have c2 := hth.cell (o := 2) rfl
  have f2 := hth.free 2
  by_cases h0 : R.errs.getD t 0 = 0
  · have hfin : post (.returned (.tuple #[])) (w.setCell ⟨L.tb t, 2, none⟩ (.int .i64 (e : Int))) := by
      rw [← hpost]
      refine ⟨F, rfl, ?_, (Dstep.refl w F o).set (h.thr t ht).2 _⟩
      unfold failP; rw [if_pos h0]
      exact h.err ht he (Only.setAt w _ 2 _) (hth.set 2 _)
    rw [h0] at c2
    replace hfin := Lib.hid hfin
    clear hpost h hth h0
    go_enter Try.func98, Try.ntmps98
    go_wp2_with fail
    exact bodyPost_end (results_none rfl _ _ _) rfl hfin.out
  · have hfin : post (.returned (.tuple #[])) w := by
      rw [← hpost]
      refine ⟨F, rfl, ?_, Dstep.refl w F o⟩
      unfold failP; rw [if_neg h0]; exact h
    have hz : (((R.errs.getD t 0 : Nat) : Int) == 0) = false := by rw [beq_eq_false_iff_ne]; omega
    generalize R.errs.getD t 0 = ev at *
    replace hfin := Lib.hid hfin
    clear hpost h hth h0
    go_enter Try.func98, Try.ntmps98
    go_wp2_with fail
    exact bodyPost_end (results_none rfl _ _ _) rfl hfin.out

set_option maxHeartbeats 1000000 in
theorem on_any (w : World) (F : Own) (o T t : Nat) (b : Bool) (L : Lay) (R : Dv) (h : DevSt w F o L T R) (ht : t < 8) :
    Calls Try.prog 97 #[.pointer (some ⟨L.tb t, 0, none⟩), .bool b] w (DPost w F o L T (mayP R t b) (.bool (mayB R b))) := by
  generalize hpost : DPost w F o L T (mayP R t b) (.bool (mayB R b)) = post
  have hth := (h.thr t ht).1
  have c0 := hth.cell (o := 0) rfl
  have d4 := h.dev.cell (o := 11) rfl
  cases hoff : R.off with
  | true =>
    rw [hoff] at d4
    have e1 : mayP R t b = failP R t 3 := by simp [mayP, hoff]
    have e2 : mayB R b = false := by simp [mayB, hoff]
    rw [e1, e2] at hpost
    have hf := fail_any w F o T t 3 L R h ht (.inr rfl)
    replace hpost := Lib.hid hpost
    replace hf := Lib.hid hf
    clear e1 e2 hoff h hth
    go_enter Try.func97, Try.ntmps97
    go_wp2_with fail
    refine hf.out.mono ?_
    rintro e w1 ⟨F1, rfl, h1, s1⟩
    go_wp2_with fail
    rw [← hpost.out]
    exact ⟨F1, rfl, h1, s1⟩
  | false =>
    rw [hoff] at d4
    cases b with
    | false =>
      have e1 : mayP R t false = failP R t 2 := by simp [mayP, hoff]
      have e2 : mayB R false = false := by simp [mayB]
      rw [e1, e2] at hpost
      have hf := fail_any w F o T t 2 L R h ht (.inl rfl)
      replace hpost := Lib.hid hpost
      replace hf := Lib.hid hf
      clear e1 e2 hoff h hth
      go_enter Try.func97, Try.ntmps97
      go_wp2_with fail
      refine hf.out.mono ?_
      rintro e w1 ⟨F1, rfl, h1, s1⟩
      go_wp2_with fail
      rw [← hpost.out]
      exact ⟨F1, rfl, h1, s1⟩
    | true =>
      have e1 : mayP R t true = R := by simp [mayP, hoff]
      have e2 : mayB R true = true := by simp [mayB, hoff]
      rw [e1, e2] at hpost
      replace hpost := Lib.hid hpost
      replace h := Lib.hid h
      clear e1 e2 hoff hth
      go_enter Try.func97, Try.ntmps97
      go_wp2_with fail
      rw [← hpost.out]
      exact ⟨F, rfl, h.out, Dstep.refl _ _ _⟩
end Go.Proofs.Ytikjpklbbjmioaa
