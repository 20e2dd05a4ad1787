/- The program's device: Copy, its second loop and its end. -/
import Derived.Test.YtikjpklbbjmioaaC2
import Derived.Deep.RegionLaw
namespace Go.Proofs.Ytikjpklbbjmioaa
open Go.RowKit Go.Maps
variable {w w' : World} {F F' : Own} {o o2 T : Nat} {L L2 : Lay} {R Q : Dv}

/-- The first t threads are copied. -/
structure Cp2 (w : World) (F : Own) (o : Nat) (L : Lay) (T : Nat) (R : Dv) (o2 : Nat) (L2 : Lay) (Q : Dv) (t : Nat) (wr : World) : Prop where
  ex : ∃ Fr nbs, DevSt wr Fr o L T R ∧ DevM wr Fr o2 { L2 with nb := nbs } T (mid8 R Q t) R.perW R.curW ∧ Ext w F Fr
  b : Below w.heap.size w wr
theorem Cp2.below {t : Nat} {wr wx : World} (h : Cp2 w F o L T R o2 L2 Q t wr) (hb : Below wr.heap.size wr wx) : Cp2 w F o L T R o2 L2 Q t wx := by
  obtain ⟨Fr, nbs, h1, h2, h3⟩ := h.ex
  exact ⟨⟨Fr, nbs, h1.below hb, h2.below hb (Ext.refl _ _), h3⟩, h.b.trans (hb.mono h.b.size)⟩
theorem DevM.up {T' : Nat} {ps cs : List Nat} (h : DevM w F o L T R ps cs) (ht : T ≤ T') : DevM w F o L T' R ps cs :=
  ⟨h.dev, h.fg, h.per, h.fp, h.cur, h.fc, h.lin, h.fl, h.thr, fun t h8 => ⟨(h.nov t h8).1.up ht, (h.nov t h8).2⟩⟩
theorem Cp1.two {wr : World} (h : Cp1 w F o L T R o2 L2 Q R.lines.length wr) : Cp2 w F o L T R o2 L2 (midL R Q R.lines.length) 0 wr := by
  obtain ⟨Fr, h1, h2, h3⟩ := h.ex
  exact ⟨⟨Fr, L2.nb, h1, h2.up (Nat.zero_le _), h3⟩, h.b⟩
theorem Cp2.step {t nb' : Nat} {wr : World} (h : Cp2 w F o L T R o2 L2 Q t wr) (ht : t < 8) (hn : o ≠ o2) (hw : w.heap.size ≤ L2.tb t) (hnl : Q.notes.length = 8) (hel : Q.errs.length = 8)
    (hO : Only (fun k => k = L2.tb t) wr w') (hH : Has w' (L2.tb t) [.pointer (some ⟨L2.g, 0, none⟩), .int .i64 (t : Int), .int .i64 ((R.errs.getD t 0 : Nat) : Int), .map (some nb')] 97)
    (hm : NoteV w' nb' T R.lines.length (noteF (R.notes.getD t []))) (hql : Q.lines.length = R.lines.length) (hnb : wr.heap.size ≤ nb') : Cp2 w F o L T R o2 L2 Q (t + 1) w' := by
  obtain ⟨Fr, nbs, h1, h2, h3⟩ := h.ex
  have hwr := h.b.size
  have htb := (h2.thr t ht).2
  have hrn := h1.ok.nl
  have hre := h1.ok.el
  let F' : Own := fun k => if k < wr.heap.size then Fr k else if k = nb' then some (o2, 6, t) else none
  have hx : Ext wr Fr F' := fun k hk => if_pos hk
  have e : ∀ {b r}, Fr b = some (o2, r) → b < wr.heap.size → F' b = some (o2, r) := fun h1 h2 => (hx _ h2).trans h1
  have ne : ∀ {b : Nat} {r : Nat × Nat}, Fr b = some (o2, r) → r ≠ (5, t) → ¬ b = L2.tb t := fun hb hr => Own.ne hb htb (fun e => hr (by cases e; rfl))
  refine ⟨⟨F', fun j => if j = t then nb' else nbs j, h1.kept hO hx (fun k r s e => ?_), ?_, h3.to hwr hx⟩, h.b.trans (hO.below hwr (fun k _ s => by rw [s]; exact hw))⟩
  · rw [s] at e; have := htb; rw [show ({ L2 with nb := nbs } : Lay).tb t = L2.tb t from rfl] at this; rw [this] at e; cases e; exact hn rfl
  · refine ⟨h2.dev.only hO (ne h2.fg (by simp)), e h2.fg h2.dev.lt, ownsRow_only h2.per hO (by rintro k hk; cases hk; exact ne h2.fp (by simp)), e h2.fp (ownsRow_lt h2.per rfl), ownsRow_only h2.cur hO (by rintro k hk; cases hk; exact ne h2.fc (by simp)), e h2.fc (ownsRow_lt h2.cur rfl),
      ?_, e h2.fl h2.lbl, fun j hj => ?_, fun j hj => ?_⟩
    · obtain ⟨c, hv, a1, a2, a3⟩ := h2.lin
      exact LinSt.kept (S := fun k => k = L2.tb t) (R := mid8 R Q (t + 1)) ⟨c, hv, a1, a2, a3⟩ h2.fl hO hx (fun k s => by
        have := htb; rw [show ({ L2 with nb := nbs } : Lay).tb t = L2.tb t from rfl] at this
        rw [s, this]; exact ⟨by simp, fun i => by simp⟩)
    · have he : (mid8 R Q (t + 1)).errs.getD j 0 = if j < t + 1 then R.errs.getD j 0 else Q.errs.getD j 0 := upto_get _ _ _ _ _ (by omega) (by omega)
      have he0 : (mid8 R Q t).errs.getD j 0 = if j < t then R.errs.getD j 0 else Q.errs.getD j 0 := upto_get _ _ _ _ _ (by omega) (by omega)
      by_cases ej : j = t
      · subst ej
        refine ⟨?_, e htb (h2.thr j hj).1.lt⟩
        have : thrCells { L2 with nb := fun i => if i = j then nb' else nbs i } (mid8 R Q (j + 1)) j = [.pointer (some ⟨L2.g, 0, none⟩), .int .i64 (j : Int), .int .i64 ((R.errs.getD j 0 : Nat) : Int), .map (some nb')] := by
          unfold thrCells; rw [he, if_pos (by omega)]; simp only [if_true]
        rw [this]; exact hH
      · obtain ⟨a1, a2⟩ := h2.thr j hj
        refine ⟨?_, e a2 a1.lt⟩
        have : thrCells { L2 with nb := fun i => if i = t then nb' else nbs i } (mid8 R Q (t + 1)) j = thrCells { L2 with nb := nbs } (mid8 R Q t) j := by
          unfold thrCells
          rw [he, he0]
          simp only [if_neg ej]
          by_cases hlt : j < t
          · rw [if_pos hlt, if_pos (by omega)]
          · rw [if_neg hlt, if_neg (by omega)]
        rw [this]; exact a1.only hO (ne a2 (by simpa using ej))
    · have he : (mid8 R Q (t + 1)).notes.getD j [] = if j < t + 1 then R.notes.getD j [] else Q.notes.getD j [] := upto_get _ _ _ _ _ (by omega) (by omega)
      have he0 : (mid8 R Q t).notes.getD j [] = if j < t then R.notes.getD j [] else Q.notes.getD j [] := upto_get _ _ _ _ _ (by omega) (by omega)
      by_cases ej : j = t
      · subst ej
        rw [he, if_pos (by omega)]
        simp only [if_true]
        refine ⟨?_, ?_⟩
        · rw [show (mid8 R Q (j + 1)).lines.length = R.lines.length from hql]; exact hm
        · simp only [F', if_neg (show ¬ nb' < wr.heap.size by omega), if_true]
      · obtain ⟨a1, a2⟩ := h2.nov j hj
        rw [he0] at a1
        rw [he]
        simp only [if_neg ej]
        have e3 : (if j < t + 1 then R.notes.getD j [] else Q.notes.getD j []) = if j < t then R.notes.getD j [] else Q.notes.getD j [] := by
          by_cases hlt : j < t
          · rw [if_pos hlt, if_pos (by omega)]
          · rw [if_neg hlt, if_neg (by omega)]
        rw [e3]
        exact ⟨a1.only hO (ne a2 (by simp)), e a2 a1.lt⟩
def CopyPost (w : World) (F : Own) (o : Nat) (L : Lay) (o2 T : Nat) (R : Dv) (e : Ending) (w' : World) : Prop :=
  ∃ L2 F', e = .returned (.pointer (some ⟨L2.g, 0, none⟩)) ∧ DevSt w' F' o L T R ∧ DevSt w' F' o2 L2 T R ∧ Ext w F F' ∧ Below w.heap.size w w'
/-- The last four cells. -/
theorem Cp2.fin {wr : World} (h : Cp2 w F o L T R o2 L2 Q 8 wr) (hn : o ≠ o2) (hw : w.heap.size ≤ L2.g) (hnl : Q.notes.length = 8) (hel : Q.errs.length = 8) (hql : Q.lines = R.lines) (hO : Only (fun k => k = L2.g) wr w')
    (hH : ∀ cs, Has wr L2.g cs 94 → Has w' L2.g ((((cs.set 11 (.bool R.off)).set 12 (.bool (decide (0 ≤ R.left)))).set 13 (.int .i64 (max R.left 0))).set 14 (.int .u64 (R.exe : Int))) 94) :
    CopyPost w F o L o2 T R (.returned (.pointer (some ⟨L2.g, 0, none⟩))) w' := by
  obtain ⟨Fr, nbs, h1, h2, h3⟩ := h.ex
  have hwr := h.b.size
  have hrn := h1.ok.nl
  have hre := h1.ok.el
  refine ⟨{ L2 with nb := nbs }, Fr, rfl, h1.kept hO (Ext.refl _ _) (fun k r s e => ?_), ?_, h3, h.b.trans (hO.below hwr (fun k _ s => by rw [s]; exact hw))⟩
  · have := h2.fg; rw [show ({ L2 with nb := nbs } : Lay).g = L2.g from rfl] at this; rw [s, this] at e; cases e; exact hn rfl
  · refine DevM.st ?_ h1.ok
    refine h2.own ?_ hO hql.symm ?_ ?_
    · have := hH _ h2.dev
      have e : devCells { L2 with nb := nbs } R = ((((devCells { L2 with nb := nbs } (mid8 R Q 8)).set 11 (.bool R.off)).set 12 (.bool (decide (0 ≤ R.left)))).set 13 (.int .i64 (max R.left 0))).set 14 (.int .u64 (R.exe : Int)) := by
        unfold devCells
        rw [show (mid8 R Q 8).lines = R.lines from hql]
        rfl
      rw [e]; exact this
    · show R.notes = upto R.notes Q.notes 8
      rw [← hrn]; exact (upto_all _ _ (by omega)).symm
    · show R.errs = upto R.errs Q.errs 8
      rw [← hre]; exact (upto_all _ _ (by omega)).symm
/-- The builtin copy of a whole row's head, as a step of a region that draws its order. -/
theorem step_copyR {P : Program} {w : World} {ops : Array Oper} {o : Oper} {a : Act} {K : Act → World → Prop} {Q : Exit → Act → World → Prop} {E : Prop} (hgd : o.guard = none) (d s : Operand) (dT sT : TypeId)
    (ho : o.op = .call { callee := .builtin .copy, args := #[d, s], argTypes := #[dT, sT] }) (elem : TypeId) (hu : P.underlying dT = some (.slice elem)) (hsz : (P.info? elem).map (·.size) = some 1)
    (g n dCap sCap : Nat) (ad : Addr) (hd : a.eval d = .slice (some ⟨g, 0, none⟩) n dCap) (hs : a.eval s = .slice (some ad) n sCap) (xs cs : List Value) (hown : w.ownsRow 0 elem 1 (.slice (some ⟨g, 0, none⟩) n dCap) n xs)
    (hn : cs.length = n) (hsrc : ∀ j v, cs[j]? = some v → w.cell? (ad.add j) = some v) (h1 : ∀ v ∈ cs, v.oneCell' = true)
    (h : ∀ w', w'.ownsRow 0 elem 1 (.slice (some ⟨g, 0, none⟩) n dCap) n cs → Only (fun k => k = g) w w' → K (a.put o.dst (goInt n)) w') :
    if Region.wanted o (yielded ops a.tmps) = true then Oper.wp P o a w K Q else E := by
  have hw : Region.wanted o (yielded ops a.tmps) = true := by simp [Region.wanted, hgd]
  rw [if_pos hw]
  rcases hown.2 with ⟨hv, _⟩ | ⟨g', cap, cur, hv, hb, hg, h4, h5, h6, h7⟩
  · cases hv
  · simp only [Value.slice.injEq, Option.some.injEq, Addr.mk.injEq, and_true, true_and] at hv
    obtain ⟨rfl, rfl⟩ := hv
    have hrun := run_copy_row (P := P) w dT sT o.type elem g 0 n dCap ad n sCap cur elem cs hu hsz hg (by rw [hn]; exact (Nat.min_self n).symm) hsrc (by omega) h1
    unfold Oper.wp
    simp [execOp, ho, resolve, invoke, builtin, hd, hs, hrun, Result.andThen, hn]
    refine h _ ⟨by omega, .inr ⟨g, dCap, _, rfl, hb, setRow_heap w g cur _ elem _ hg, h4, h5, ?_, ?_⟩⟩ ⟨rfl, rfl, rfl, by simp [World.setRow], fun k _ hk => setRow_other w g k _ hk⟩
    · simp; omega
    · rw [List.take_append_of_le_length (by omega), List.take_of_length_le (by omega)]
end Go.Proofs.Ytikjpklbbjmioaa
