/- The reference's device: Copy, its states. -/
import Derived.Test.YtkmhanjddkplbaaC2
import Derived.Test.YtkmhanjddkplbaaE11
namespace Go.Proofs.Ytkmhanjddkplbaa
open Go.RowKit Go.Maps
variable {w w' : World} {F F' : Own} {o o2 h T c : Nat} {R : Dv}

/-- The cells of a line. -/
def lnCells (l : Ln) (v : Value) : List Value :=
  [.int .u64 ((wat l.base 0 : Nat) : Int), .int .u64 ((wat l.base 1 : Nat) : Int), .int .u64 ((wat l.base 2 : Nat) : Int), .int .u64 ((wat l.base 3 : Nat) : Int), .int .u64 ((wat l.base 4 : Nat) : Int), .int .u64 ((wat l.base 5 : Nat) : Int), .int .u64 ((wat l.base 6 : Nat) : Int), .int .u64 ((wat l.base 7 : Nat) : Int), v, .int .i64 (l.done : Int)]
theorem lnCells_base (l : Ln) (v : Value) (j : Nat) (hj : j < 8) : (lnCells l v)[j]? = some (.int .u64 ((wat l.base j : Nat) : Int)) := by
  match j, hj with
  | 0, _ | 1, _ | 2, _ | 3, _ | 4, _ | 5, _ | 6, _ | 7, _ => rfl
/-- What the row of lines holds at line j. -/
def LnAt (w : World) (F : Own) (o : Nat) (cs : List Value) (l : Ln) (j : Nat) (v : Value) : Prop :=
  (∀ k, k < 8 → cs[j * 10 + k]? = some (.int .u64 ((wat l.base k : Nat) : Int))) ∧ cs[j * 10 + 8]? = some v ∧ cs[j * 10 + 9]? = some (.int .i64 (l.done : Int)) ∧ RdO w F (o, 2, j) v l.hist.length (wcells l.hist)
/-- The first i lines are copied. -/
structure Rc1 (w : World) (F : Own) (o h T : Nat) (R : Dv) (o2 c : Nat) (tl : List Value) (i : Nat) (a : Option Addr) (cap : Nat) (cs : List Value) (wr : World) : Prop where
  ex : ∃ (Fr : Own) (hv : Nat → Value), RefSt wr Fr o h T R ∧ Fr c = some (o2, 0, 0) ∧ (∀ k, Value.ownBlock (.slice a i cap) = some k → Fr k = some (o2, 1, 0)) ∧ (∀ j, j < i → LnAt wr Fr o2 cs (R.line j) j (hv j)) ∧ Ext w F Fr
  dev : Has wr c (.slice a i cap :: tl) 84
  row : wr.ownsRow 0 78 10 (.slice a i cap) i cs
  fr : ∀ k, Value.ownBlock (.slice a i cap) = some k → w.heap.size ≤ k
  hc : w.heap.size ≤ c
  b : Below w.heap.size w wr
variable {tl cs : List Value} {i cap : Nat} {a : Option Addr} {wr : World}
theorem Rc1.step (hp : Rc1 w F o h T R o2 c tl i a cap cs wr) (hn : o ≠ o2) {a2 : Option Addr} {cap2 : Nat} {v : Value} {wF : World} (hO : Only (fun k => Value.ownBlock (.slice a i cap) = some k) wr wF)
    (hrow : wF.ownsRow 0 78 10 (.slice a2 (i + 1) cap2) (i + 1) (cs ++ lnCells (R.line i) v)) (hfr : ∀ k, Value.ownBlock (.slice a2 (i + 1) cap2) = some k → Value.ownBlock (.slice a i cap) = some k ∨ wr.heap.size ≤ k)
    (hrd : Rd wF v (R.line i).hist.length (wcells (R.line i).hist)) (hvn : ∀ k, v.ownBlock = some k → wr.heap.size ≤ k ∧ Value.ownBlock (.slice a2 (i + 1) cap2) ≠ some k) (hvc : ∀ a m c, v = .slice a m c → m ≤ c ∧ (a = none → c = 0)) :
    Rc1 w F o h T R o2 c tl (i + 1) a2 cap2 (cs ++ lnCells (R.line i) v) (wF.setCell ⟨c, 0, none⟩ (.slice a2 (i + 1) cap2)) := by
  obtain ⟨Fr, hv, h1, h2, h3, h4, h5⟩ := hp.ex
  have hs := hp.b.size
  have hcl := hp.dev.lt
  have hsF := hO.size
  have hrl := hp.row.1
  let F' : Own := fun k => if k < wr.heap.size then Fr k else if Value.ownBlock (.slice a2 (i + 1) cap2) = some k then some (o2, 1, 0) else if v.ownBlock = some k then some (o2, 2, i) else none
  have hx : Ext wr Fr F' := fun k hk => if_pos hk
  have hac : ∀ k, Value.ownBlock (.slice a i cap) = some k → k ≠ c := fun k hk e => by have := h3 k hk; rw [e, h2] at this; cases this
  have hO2 : Only (fun k => Value.ownBlock (.slice a i cap) = some k ∨ k = c) wr (wF.setCell ⟨c, 0, none⟩ (.slice a2 (i + 1) cap2)) :=
    Only.setCell (S := fun k => Value.ownBlock (.slice a i cap) = some k ∨ k = c) (hO.mono (fun _ _ s => .inl s)) (a := ⟨c, 0, none⟩) (fun _ => .inr rfl) _
  have hS : ∀ k r, (Value.ownBlock (.slice a i cap) = some k ∨ k = c) → Fr k = some (o2, r) → r = (1, 0) ∨ r = (0, 0) := fun k r s e => by
    rcases s with s | s
    · rw [h3 k s] at e; cases e; exact .inl rfl
    · rw [s, h2] at e; cases e; exact .inr rfl
  have hSo : ∀ k r, (Value.ownBlock (.slice a i cap) = some k ∨ k = c) → Fr k ≠ some (o, r) := fun k r s e => by
    rcases s with s | s
    · rw [h3 k s] at e; cases e; exact hn rfl
    · rw [s, h2] at e; cases e; exact hn rfl
  have hc2 : ∀ k, Value.ownBlock (.slice a2 (i + 1) cap2) = some k → k ≠ c := fun k hk e => by
    rcases hfr k hk with h | h
    · exact hac k h e
    · omega
  have hO3 : Only (fun k => k = c) wF (wF.setCell ⟨c, 0, none⟩ (.slice a2 (i + 1) cap2)) := Only.setAt _ _ _ _
  refine ⟨⟨F', fun j => if j = i then v else hv j, h1.kept hO2 hx hSo, (hx c hcl).trans h2, ?_, ?_, h5.to hs hx⟩, ?_, ownsRow_only hrow hO3 hc2, ?_, hp.hc, ?_⟩
  · intro k hk
    by_cases hlt : k < wr.heap.size
    · rw [hx k hlt]
      rcases hfr k hk with h | h
      · exact h3 k h
      · omega
    · simp only [F', if_neg hlt, hk, if_true]
  · intro j hj
    by_cases e : j = i
    · subst e
      simp only [if_true]
      refine ⟨fun k hk => ?_, ?_, ?_, ?_, fun _ k hk => ?_, hvc⟩
      · rw [List.getElem?_append_right (by omega), show j * 10 + k - cs.length = k by omega]; exact lnCells_base _ _ k hk
      · rw [List.getElem?_append_right (by omega), show j * 10 + 8 - cs.length = 8 by omega]; rfl
      · rw [List.getElem?_append_right (by omega), show j * 10 + 9 - cs.length = 9 by omega]; rfl
      · exact hrd.only hO3 (fun k hk e => by have := (hvn k hk).1; omega)
      · obtain ⟨q1, q2⟩ := hvn k hk
        simp only [F', if_neg (show ¬ k < wr.heap.size by omega), if_neg q2, hk, if_true]
    · obtain ⟨q1, q2, q3, q4⟩ := h4 j (by omega)
      simp only [if_neg e]
      refine ⟨fun k hk => ?_, ?_, ?_, q4.kept hO2 hx (fun k s e => ?_)⟩
      · rw [List.getElem?_append_left (by omega)]; exact q1 k hk
      · rw [List.getElem?_append_left (by omega)]; exact q2
      · rw [List.getElem?_append_left (by omega)]; exact q3
      · rcases hS k _ s e with e1 | e1 <;> cases e1
  · exact (hp.dev.only hO (fun s => hac c s rfl)).set 0 _
  · intro k hk
    rcases hfr k hk with h | h
    · exact hp.fr k h
    · omega
  · refine hp.b.trans (hO2.below hs (fun k _ s => ?_))
    rcases s with s | s
    · exact hp.fr k s
    · rw [s]; exact hp.hc
/-- The first t threads' notes are copied, too. -/
structure Rc2 (w : World) (F : Own) (o h T : Nat) (R : Dv) (o2 c lb lc : Nat) (t : Nat) (ns : Nat → Value) (wr : World) : Prop where
  ex : ∃ Fr, RefSt wr Fr o h T R ∧ Fr c = some (o2, 0, 0) ∧ RLinSt wr Fr o2 lb lc R ∧ Fr lb = some (o2, 1, 0) ∧ (∀ j, j < t → RdO wr Fr (o2, 3, j) (ns j) (R.notes.getD j []).length (noteCells (R.notes.getD j []))) ∧ Ext w F Fr
  dev : Has wr c (refCells lb lc ns R) 84
  hc : w.heap.size ≤ c
  b : Below w.heap.size w wr
variable {lb lc t : Nat} {ns : Nat → Value}
theorem Rc1.two (hp : Rc1 w F o h T R o2 c (refCells 0 0 ns R).tail R.lines.length a cap cs wr) (h1 : 1 ≤ R.lines.length) : ∃ lb, a = some ⟨lb, 0, none⟩ ∧ Rc2 w F o h T R o2 c lb cap 0 ns wr := by
  obtain ⟨Fr, hv, q1, q2, q3, q4, q5⟩ := hp.ex
  obtain ⟨lb, rfl⟩ : ∃ lb, a = some ⟨lb, 0, none⟩ := by
    rcases hp.row.2 with ⟨_, h⟩ | ⟨g, c2, cur, hv, _⟩
    · omega
    · simp only [Value.slice.injEq] at hv; exact ⟨g, hv.1⟩
  exact ⟨lb, rfl, ⟨Fr, q1, q2, ⟨cs, hv, hp.row, q4⟩, q3 lb rfl, fun j hj => by omega, q5⟩, hp.dev, hp.hc, hp.b⟩
theorem RLinSt.lbl (hl : RLinSt w F o lb lc R) : lb < w.heap.size := by obtain ⟨cs, hv, x, _⟩ := hl; exact ownsRow_lt x (k := lb) rfl
theorem Rc2.step (hp : Rc2 w F o h T R o2 c lb lc t ns wr) (hn : o ≠ o2) (ht : t < 8) {v : Value} {wF : World} (hO : Only (fun _ => False) wr wF)
    (hrd : Rd wF v (R.notes.getD t []).length (noteCells (R.notes.getD t []))) (hvn : ∀ k, v.ownBlock = some k → wr.heap.size ≤ k) (hvc : ∀ a m c, v = .slice a m c → m ≤ c ∧ (a = none → c = 0)) :
    Rc2 w F o h T R o2 c lb lc (t + 1) (fun j => if j = t then v else ns j) (wF.setCell ⟨c, 1 + t, none⟩ v) := by
  obtain ⟨Fr, q1, q2, q3, q4, q5, q6⟩ := hp.ex
  have hs := hp.b.size
  have hcl := hp.dev.lt
  let F' : Own := fun k => if k < wr.heap.size then Fr k else if v.ownBlock = some k then some (o2, 3, t) else none
  have hx : Ext wr Fr F' := fun k hk => if_pos hk
  have hO2 : Only (fun k => k = c) wr (wF.setCell ⟨c, 1 + t, none⟩ v) := Only.setCell (S := fun k => k = c) (hO.mono (fun _ _ s => s.elim)) (a := ⟨c, 1 + t, none⟩) (fun _ => rfl) _
  have hO3 : Only (fun k => k = c) wF (wF.setCell ⟨c, 1 + t, none⟩ v) := Only.setAt _ _ _ _
  refine ⟨⟨F', q1.kept hO2 hx (fun k r s e => by rw [s, q2] at e; cases e; exact hn rfl), (hx c hcl).trans q2, q3.kept q4 hO2 hx (fun k s => by rw [s, q2]; exact ⟨by simp, fun i => by simp⟩), (hx lb q3.lbl).trans q4, ?_, q6.to hs hx⟩, ?_, hp.hc, hp.b.trans (hO2.below hs (fun k _ s => by rw [s]; exact hp.hc))⟩
  · intro j hj
    by_cases e : j = t
    · subst e
      simp only [if_true]
      refine ⟨hrd.only hO3 (fun k hk e => by have := hvn k hk; omega), fun _ k hk => ?_, hvc⟩
      have := hvn k hk
      simp only [F', if_neg (show ¬ k < wr.heap.size by omega), hk, if_true]
    · simp only [if_neg e]
      exact (q5 j (by omega)).kept hO2 hx (fun k s => by rw [s, q2]; simp)
  · have := (hp.dev.only hO (fun s => s)).set (1 + t) v
    rw [← refCells_setNote lb lc ns R t R.notes v ht] at this
    exact this
def RCopyPost (w : World) (F : Own) (o h o2 T : Nat) (R : Dv) (e : Ending) (w' : World) : Prop :=
  ∃ c F', e = .returned (.pointer (some ⟨c, 0, none⟩)) ∧ RefSt w' F' o h T R ∧ RefSt w' F' o2 c T R ∧ Ext w F F' ∧ Below w.heap.size w w'
theorem Rc2.fin (hp : Rc2 w F o h T R o2 c lb lc 8 ns wr) : RCopyPost w F o h o2 T R (.returned (.pointer (some ⟨c, 0, none⟩))) wr := by
  obtain ⟨Fr, q1, q2, q3, q4, q5, q6⟩ := hp.ex
  exact ⟨c, Fr, rfl, q1, ⟨q1.ok, ⟨lb, lc, ns, hp.dev, q3, q4, q5⟩, q2⟩, q6, hp.b⟩
end Go.Proofs.Ytkmhanjddkplbaa
