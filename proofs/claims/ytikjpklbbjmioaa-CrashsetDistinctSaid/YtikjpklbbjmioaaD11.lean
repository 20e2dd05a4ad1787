/- The program's device: the walk of Fence. -/
import Derived.Test.YtikjpklbbjmioaaD10
namespace Go.Proofs.Ytikjpklbbjmioaa
open Go.RowKit Go.Maps
variable {w : World} {F : Own} {o T : Nat} {L : Lay} {R : Dv}

def FRel (w : World) (F : Own) (o T : Nat) (L : Lay) (R : Dv) (t : Nat) (D : DataW Unit) (wr : World) : Prop :=
  ∃ (left : Lit → Bool) (cnt : Nat), wr.ranges Try.prog 3 (plainElem Try.prog 22) (L.nb t) w.heap.size T D left cnt ∧ (∀ kl, left kl = true → has D kl = true) ∧
    DevSt wr F o L T (midD R (noteF (R.notes.getD t [])) left) ∧ Only (fun k => k = L.lb ∨ k = L.pb) w wr
set_option maxHeartbeats 4000000 in
set_option maxRecDepth 100000 in
theorem fence_any (h : DevSt w F o L T R) (hT : T + 1 ≤ 100000) {t : Nat} (ht : t < 8) :
    Calls Try.prog 91 #[.pointer (some ⟨L.tb t, 0, none⟩)] w (DPost w F o L (T + 1) (fenceP R t) (.tuple #[])) := by
  generalize hpost : DPost w F o L (T + 1) (fenceP R t) (.tuple #[]) = post
  have c0 := (h.thr t ht).1.cell (o := 0) rfl
  have hco := counted_any w F o T t true L R h (by omega) ht
  have hn2 := h.ok.n2
  by_cases hm : countB R true = true
  · have e3 : fenceP R t = fencedP (countP R t true) t := by unfold fenceP; rw [if_pos hm]
    have elen := (countP_lines R t true).1
    rw [e3] at hpost
    rw [hm] at hco
    have elen2 : (countP R t true).lines.length = R.lines.length := by rw [elen]
    have ht100 := h.ok.t
    generalize countP R t true = Q at *
    replace hco := Lib.hid hco
    clear h hm e3 elen
    have hnI := elen2
    replace elen2 := Lib.hid elen2
    clear hnI
    go_enter Try.func91, Try.ntmps91
    go_wp2_with fail
    refine hco.out.mono ?_
    rintro e wq ⟨F0, rfl, h0, s0⟩
    obtain ⟨F1, h1, s1, hFb⟩ : ∃ F1, DevSt wq F1 o L (T + 1) Q ∧ Dstep w F o wq F1 ∧ ∀ k, wq.heap.size ≤ k → F1 k = none := by
      have hx : Ext wq F0 (fun k => if k < wq.heap.size then F0 k else none) := fun k hk => if_pos hk
      exact ⟨_, h0.kept (Only.refl (fun _ => False) _) hx (fun _ _ s => s.elim), s0.trans ⟨hx, Only.refl _ _⟩, fun k hk => if_neg (by omega)⟩
    clear h0 s0
    have c0 := (h1.thr t ht).1.cell (o := 0) rfl
    have c3 := (h1.thr t ht).1.cell (o := 3) rfl
    obtain ⟨D, hD1, hD2, hD3, hD4, hD5⟩ := (h1.nov t ht).1
    have hok := h1.ok
    have hbl := hD1.lt
    replace hpost := Lib.hid hpost
    have hrel0 : ∀ w0, w0.ranges Try.prog 3 (plainElem Try.prog 22) (L.nb t) wq.heap.size (T + 1) D (Maps.has D) (Maps.size D) → wq.grownBy w0 none → FRel wq F1 o (T + 1) L Q t D w0 := by
      intro w0 hrg hg
      have hO0 : Only (fun _ => False) wq w0 := (Only.of_grown hg).mono fun k _ e => by cases e
      refine ⟨_, _, hrg, fun _ h => h, ?_, hO0.mono fun _ _ s => s.elim⟩
      rw [midD_start Q _ _ (fun l hl => by rw [hD4]; exact hl)]
      exact h1.kept hO0 (Ext.refl _ _) (fun _ _ s => s.elim)
    have hnbl : L.nb t ≠ L.lb ∧ L.nb t ≠ L.pb := ⟨Own.ne (h1.nov t ht).2 h1.fl (by simp), Own.ne (h1.nov t ht).2 h1.fp (by simp)⟩
    have hszl : L.lb < wq.heap.size ∧ L.pb < wq.heap.size := ⟨by obtain ⟨cs, hv, h5, _⟩ := h1.lin; exact h5.lt, ownsRow_lt h1.per rfl⟩
    have hnF := (h1.nov t ht).2
    have hPF : ∀ b, b = L.lb ∨ b = L.pb → Mine F1 o b := by
      rintro b (rfl | rfl)
      · exact ⟨_, h1.fl⟩
      · exact ⟨_, h1.fp⟩
    replace hrel0 := Lib.hid hrel0
    clear h1
    go_wp2_with (at_range; refine wpList_range_own _ rfl _ 95 rfl 3 22 key3 Try.underlying95 _ (L.nb t) (T + 1) D rfl hD1 ?_; intro w0 hrg0 hg0 hs0)
    go_frame
    go_loopw [2] (fun _ wr => FRel wq F1 o (T + 1) L Q t D wr) (fun _ wr => wr.rangeLeft (L.nb t) wq.heap.size)
    case atStart => exact hrel0.out _ hrg0 hg0
    case round =>
      obtain ⟨left, cnt, hrg, hsub, hD, hO⟩ := hrel
      have c0 := (hD.thr t ht).1.cell (o := 0) rfl
      have c3 := (hD.thr t ht).1.cell (o := 3) rfl
      have d2 := hD.dev.cell (o := 2) rfl
      replace hD := Lib.hid hD
      go_wp2_with (at_next; refine wpList_next_ranges_ii _ rfl _ rfl 3 22 .i64 .u64 key3 Try.underlying3 Try.underlying22 (L.nb t) wq.heap.size (T + 1) _ _ _ rfl hrg ?_ ?_)
      · intro _ hl0
        have hown := hrg.owns
        have hfin : ∀ w6, w6.ownsMap Try.prog 3 (plainElem (H := Unit) Try.prog 22) (L.nb t) 0 (.map []) → Only (fun j => j = L.nb t) wr w6 → post (.returned (.tuple #[])) w6 := by
          intro w6 hown6 only6
          rw [← hpost.out]
          have hc := hD.out.cleared ht only6 (NoteV.none hown6)
          have e : ({ midD Q (noteF (Q.notes.getD t [])) left with notes := (midD Q (noteF (Q.notes.getD t [])) left).notes.set t [] } : Dv) = fencedP Q t := by
            unfold fencedP midD
            rw [midD_end hok ht left hl0]
          rw [e] at hc
          refine ⟨F1, rfl, hc, s1.trans ((Dstep.mk' hO hPF).trans (Dstep.mk' only6 ?_))⟩
          rintro b rfl
          exact ⟨_, hnF⟩
        replace hfin := Lib.hid hfin
        go_wp2_with (refine wpList_clear rfl (.tmp 56) 95 3 22 rfl _ (L.nb t) (T + 1) D rfl hown Try.underlying95 ?_; intro w6 hown6 only6)
        have hx := hfin.out w6 hown6 only6
        first | exact hx | exact bodyPost_end (results_none rfl _ _ _) rfl hx
      · intro x c w1 cnt1 hwx hwc hlx hat hrg1 hlt1 hg1 hs1 hen
        obtain ⟨k, hk, hxk⟩ := hD3 _ (hsub _ hlx)
        simp only [Lit.int.injEq, true_and] at hxk
        subst hxk
        obtain ⟨c', hc'⟩ : ∃ c', noteF (Q.notes.getD t []) k = some c' := by
          have := hD4 k
          rw [hsub _ hlx] at this
          exact Option.isSome_iff_exists.1 this.symm
        have hcc : c = (c' : Int) := by
          have h1 := hat (.lit (.int .i64 0))
          rw [hD5 k c' hc'] at h1
          simp only [DataW.lit.injEq, Lit.int.injEq, true_and] at h1
          exact h1.symm
        subst hcc
        obtain ⟨_, hcle⟩ := hok.no t ht _ (noteF_mem hc')
        simp only at hcle
        have hkl := (hok.ln k hk).hl
        have hO1r : Only (fun j => j = wq.heap.size) wr w1 := (Only.of_grown hg1).mono fun j _ e => by simpa using e
        have hwrs := hO.size
        have hD1 : DevSt w1 F1 o L (T + 1) (midD Q (noteF (Q.notes.getD t [])) left) := by
          refine DevSt.kept hD.out hO1r (Ext.refl _ _) (fun k r s e => ?_)
          rw [hFb k (by omega)] at e; cases e
        have hO1 : Only (fun k => k = L.lb ∨ k = L.pb) wq w1 := hO.trans' hO1r (fun j hj e => by omega)
        have hml := midD_line Q (noteF (Q.notes.getD t [])) left k hk hlx
        have hlen := midD_len Q (noteF (Q.notes.getD t [])) left
        have hstep := midD_step Q (noteF (Q.notes.getD t [])) left k c' hk hc'
        have c0' := (hD1.thr t ht).1.cell (o := 0) rfl
        have d2' := hD1.dev.cell (o := 2) rfl
        rw [hlen] at d2'
        obtain ⟨cs, hv', hL, hcl, hlin⟩ := hD1.lin
        obtain ⟨x0, x1, hsub1, hrole⟩ := hlin k (by rw [hlen]; exact hk)
        have l0 := hL.cell x0
        rw [hml] at l0
        have hkI : (k : Int) < (Q.lines.length : Int) := by omega
        have hdI : ((Q.line k).done : Int) ≤ 100000 := by omega
        have hcI : (c' : Int) ≤ 100000 := by omega
        have hpe : (Q.line k).done < c' → Calls Try.prog 107 #[.pointer (some ⟨L.g, 0, none⟩), .int .i64 (k : Int), .int .i64 ((c' : Int) - ((Q.line k).done : Int))] w1 (PPost w1 F1 o L (T + 1) (midD Q (noteF (Q.notes.getD t [])) (fun z => left z && !z.sameKey (.int .i64 k)))) := by
          intro hlt
          have := persist_any hD1 (i := k) (k := c' - (Q.line k).done) (by rw [hlen]; exact hk) (by rw [hml]; omega)
          rw [hml] at this
          rw [hstep]
          unfold fenL
          rw [if_pos hlt]
          rw [show ((c' : Int) - ((Q.line k).done : Int)) = ((c' - (Q.line k).done : Nat) : Int) from by omega]
          exact this
        have hrelN : ∀ w2, DevSt w2 F1 o L (T + 1) (midD Q (noteF (Q.notes.getD t [])) (fun z => left z && !z.sameKey (.int .i64 k))) → Only (fun k => k = L.lb ∨ k = L.pb) w1 w2 → FRel wq F1 o (T + 1) L Q t D w2 ∧ w2.rangeLeft (L.nb t) wq.heap.size < wr.rangeLeft (L.nb t) wq.heap.size := by
          intro w2 h2 o2
          obtain ⟨r1, r2⟩ := ranges_only hrg1 o2 (by rintro (e | e); exact hnbl.1 e; exact hnbl.2 e) (by omega)
          refine ⟨⟨_, cnt1, r1, fun kl h => hsub kl (by simp at h; exact h.1), h2, hO1.trans o2⟩, ?_⟩
          rw [r1.left_eq, hrg.left_eq]; exact hlt1
        have hno : ¬ (Q.line k).done < c' → midD Q (noteF (Q.notes.getD t [])) (fun z => left z && !z.sameKey (.int .i64 k)) = midD Q (noteF (Q.notes.getD t [])) left := by
          intro hlt
          rw [hstep]; unfold fenL; rw [if_neg hlt, ← hml]; unfold Dv.setLine Dv.line; rw [set_getD_self]
        replace hrelN := Lib.hid hrelN
        clear hlin hsub1 hrole hL x0 x1 hstep hat hD3 hD4 hD5 hsub hlx hwx hwc hc' hg1 hrg1 c0 c3 d2 hO1r hcl
        generalize hdd : (Q.line k).done = dn at *
        by_cases hlt : dn < c'
        · have hp := Lib.hid (hpe hlt)
          have hltI : (dn : Int) < (c' : Int) := by omega
          clear hpe hno hml hlen hD1 hdd hpost
          go_wp2_with fail
          refine hp.out.mono ?_
          rintro e w2 ⟨rfl, h2, o2⟩
          have hx := Lib.hid (hrelN.out w2 h2 o2)
          clear h2 o2
          go_wp2_with fail
          go_roundw
          case rel => exact hx.out.1
          case measure => exact hx.out.2
        · have h2 := hD1
          rw [← hno hlt] at h2
          have hx := Lib.hid (hrelN.out w1 h2 (Only.refl _ _))
          have hltI : ¬ (dn : Int) < (c' : Int) := by omega
          clear hpe hno hml hlen hD1 hdd hpost h2
          go_wp2_with fail
          go_roundw
          case rel => exact hx.out.1
          case measure => exact hx.out.2
  · have hm1 : countB R true = false := by simpa using hm
    have e3 : fenceP R t = countP R t true := by unfold fenceP; rw [if_neg hm]
    rw [e3] at hpost
    rw [hm1] at hco
    replace hpost := Lib.hid hpost
    replace hco := Lib.hid hco
    clear h hm hm1 e3
    go_enter Try.func91, Try.ntmps91
    go_wp2_with fail
    refine hco.out.mono ?_
    rintro e w1 ⟨F1, rfl, h1, s1⟩
    have hfin : post (.returned (.tuple #[])) w1 := by rw [← hpost.out]; exact ⟨F1, rfl, h1, s1⟩
    replace hfin := Lib.hid hfin
    clear h1 s1
    go_wp2_with fail
    first | exact hfin.out | exact bodyPost_end (results_none rfl _ _ _) rfl hfin.out
end Go.Proofs.Ytikjpklbbjmioaa
