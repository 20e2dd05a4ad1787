/- The device as data, and its instructions as plain functions. No program in sight. Blocks with roles; a slice that lies anywhere in a block of its own, and what is appended to it. Both devices in memory: the program's and the reference's, in the state of one and the same Dv. The program's device: fail, on, counted, word, Size, Lines. -/
import Derived.Test.YtjmdibgncaljaaaHeap
import Derived.ArgAppend
import Derived.Test.YtjmdibgncaljaaaProg
import Derived.Maps.Own
import Derived.Maps.OwnOps
import Derived.Maps.RangeWalk
import Derived.BigRegion
import Derived.BigQuiet
import Derived.Deep.QuietTactic
import Derived.Outline
/-! The device as data, and its instructions as plain functions. No program in sight. -/
namespace Go.Proofs.Ytjmdibgncaljaaa.Dev

structure Ln where
  base : List Nat
  hist : List (Nat × Nat)
  done : Nat
structure Dv where
  lines : List Ln
  notes : List (List (Nat × Nat))
  errs : List Nat
  left : Int
  off : Bool
  exe : Nat
def ln0 : Ln := ⟨[], [], 0⟩
def setW (ws : List Nat) (p : Nat × Nat) : List Nat := ws.set (p.1 % 64 / 8) p.2
def setA (ws : List Nat) (p : Nat × Nat) : List Nat := ws.set (p.1 / 8) p.2
def wordsL (l : Ln) (k : Nat) : List Nat := (l.hist.take k).foldl setW l.base
def allL (l : Ln) : List Nat := wordsL l l.hist.length
def persistL (l : Ln) (k : Nat) : Ln := ⟨wordsL l k, l.hist.drop k, l.done + k⟩
def putL (l : Ln) (p : Nat × Nat) : Ln := ⟨l.base, l.hist ++ [p], l.done⟩
def Dv.curW (R : Dv) : List Nat := R.lines.flatMap allL
def Dv.perW (R : Dv) : List Nat := R.lines.flatMap Ln.base
def Dv.line (R : Dv) (i : Nat) : Ln := R.lines.getD i ln0

theorem getD_of {α : Type} {xs : List α} {i : Nat} {x : α} (d : α) (h : xs[i]? = some x) : xs.getD i d = x := by rw [List.getD, h]; rfl
theorem get_of_lt {α : Type} {xs : List α} {i : Nat} (d : α) (h : i < xs.length) : xs[i]? = some (xs.getD i d) := by
  rw [List.getD, List.getElem?_eq_getElem h]; rfl
theorem mem_getD {α : Type} {xs : List α} {i : Nat} (d : α) (h : i < xs.length) : xs.getD i d ∈ xs := List.mem_of_getElem? (get_of_lt d h)
theorem getD_set {α : Type} (xs : List α) (i j : Nat) (x d : α) (h : i < xs.length) : (xs.set i x).getD j d = if j = i then x else xs.getD j d := by
  by_cases hj : j = i
  · subst hj; rw [if_pos rfl, List.getD, List.getElem?_set_self h]; rfl
  · rw [if_neg hj, List.getD, List.getElem?_set_ne (Ne.symm hj)]; rfl
theorem set_getD_self {α : Type} (xs : List α) (i : Nat) (d : α) : xs.set i (xs.getD i d) = xs := by
  apply List.ext_getElem?
  intro j
  by_cases hj : i = j
  · subst hj
    by_cases h : i < xs.length
    · rw [List.getElem?_set_self h, get_of_lt d h]
    · rw [List.getElem?_eq_none (by simp; omega), List.getElem?_eq_none (by omega)]
  · rw [List.getElem?_set_ne hj]

/-! ### lists of eights -/
theorem flat_len {α : Type} (f : α → List Nat) : ∀ (ls : List α), (∀ l ∈ ls, (f l).length = 8) → (ls.flatMap f).length = 8 * ls.length
  | [], _ => rfl
  | l :: ls, h => by
    have := flat_len f ls (fun x hx => h x (List.mem_cons_of_mem _ hx))
    have h8 := h l (List.mem_cons_self ..)
    simp only [List.flatMap_cons, List.length_append, List.length_cons, this, h8]; omega
theorem flat_get {α : Type} (f : α → List Nat) : ∀ (ls : List α), (∀ l ∈ ls, (f l).length = 8) → ∀ (i j : Nat) (l : α), ls[i]? = some l → j < 8 → (ls.flatMap f)[8 * i + j]? = (f l)[j]?
  | [], _, i, j, l, h, _ => by simp at h
  | x :: ls, hh, 0, j, l, h, hj => by
    simp at h; subst h
    have h8 := hh x (List.mem_cons_self ..)
    simp only [List.flatMap_cons, Nat.mul_zero, Nat.zero_add]
    rw [List.getElem?_append_left (by omega)]
  | x :: ls, hh, i + 1, j, l, h, hj => by
    have h8 := hh x (List.mem_cons_self ..)
    have := flat_get f ls (fun x hx => hh x (List.mem_cons_of_mem _ hx)) i j l (by simpa using h) hj
    simp only [List.flatMap_cons]
    rw [List.getElem?_append_right (by omega), ← this]
    congr 1; omega
theorem flat_set {α : Type} (f : α → List Nat) : ∀ (ls : List α), (∀ l ∈ ls, (f l).length = 8) → ∀ (i j : Nat) (l l' : α) (v : Nat), ls[i]? = some l → j < 8 → f l' = (f l).set j v →
    (ls.set i l').flatMap f = (ls.flatMap f).set (8 * i + j) v
  | [], _, i, j, l, l', v, h, _, _ => by simp at h
  | x :: ls, hh, 0, j, l, l', v, h, hj, e => by
    simp at h; subst h
    have h8 := hh x (List.mem_cons_self ..)
    simp only [List.set_cons_zero, List.flatMap_cons, Nat.mul_zero, Nat.zero_add]
    rw [List.set_append_left _ _ (by omega), e]
  | x :: ls, hh, i + 1, j, l, l', v, h, hj, e => by
    have h8 := hh x (List.mem_cons_self ..)
    have := flat_set f ls (fun x hx => hh x (List.mem_cons_of_mem _ hx)) i j l l' v (by simpa using h) hj e
    simp only [List.set_cons_succ, List.flatMap_cons]
    rw [List.set_append_right _ _ (by omega), this]
    congr 2; omega
theorem flat_same {α : Type} (f : α → List Nat) (ls : List α) (i : Nat) (l l' : α) (h : ls[i]? = some l) (e : f l' = f l) : (ls.set i l').flatMap f = ls.flatMap f := by
  have : (ls.set i l').map f = ls.map f := by
    rw [List.map_set, e]
    apply List.ext_getElem?
    intro j
    by_cases hj : i = j
    · subst hj
      have hi : i < ls.length := by
        rcases Nat.lt_or_ge i ls.length with h1 | h1
        · exact h1
        · rw [List.getElem?_eq_none h1] at h; cases h
      rw [List.getElem?_set_self (by simpa using hi), List.getElem?_map, h]; rfl
    · rw [List.getElem?_set_ne hj]
  rw [List.flatMap_def, List.flatMap_def, this]

/-! ### words of a line -/
theorem setW_len (ws : List Nat) (p : Nat × Nat) : (setW ws p).length = ws.length := by simp [setW]
theorem fold_setW_len (ps : List (Nat × Nat)) (ws : List Nat) : (ps.foldl setW ws).length = ws.length := by
  induction ps generalizing ws with
  | nil => rfl
  | cons p ps ih => rw [List.foldl_cons, ih, setW_len]
theorem wordsL_len (l : Ln) (k : Nat) : (wordsL l k).length = l.base.length := fold_setW_len _ _
theorem wordsL_zero (l : Ln) : wordsL l 0 = l.base := rfl
theorem wordsL_succ (l : Ln) (k : Nat) (d : Nat × Nat) (h : k < l.hist.length) : wordsL l (k + 1) = setW (wordsL l k) (l.hist.getD k d) := by
  unfold wordsL; rw [take_getD l.hist k d h, List.foldl_append]; rfl
theorem allL_put (l : Ln) (p : Nat × Nat) : allL (putL l p) = setW (allL l) p := by
  unfold allL wordsL putL
  simp only [List.take_length]
  rw [List.foldl_append]; rfl
theorem allL_persist (l : Ln) (k : Nat) (h : k ≤ l.hist.length) : allL (persistL l k) = allL l := by
  have _h := h
  unfold allL wordsL persistL
  simp only [List.take_length]
  unfold wordsL
  rw [← List.foldl_append, List.take_append_drop]
theorem persistL_zero (l : Ln) : persistL l 0 = l := by
  unfold persistL wordsL
  cases l; simp

/-! ### the instructions -/
def Dv.setLine (R : Dv) (i : Nat) (l : Ln) : Dv := { R with lines := R.lines.set i l }
def failP (R : Dv) (t e : Nat) : Dv := if R.errs.getD t 0 = 0 then { R with errs := R.errs.set t e } else R
def mayP (R : Dv) (t : Nat) (valid : Bool) : Dv := if R.off then failP R t 3 else if valid then R else failP R t 2
def mayB (R : Dv) (valid : Bool) : Bool := !R.off && valid
def countB (R : Dv) (valid : Bool) : Bool := !R.off && valid && decide (R.left ≠ 0)
def countP (R : Dv) (t : Nat) (valid : Bool) : Dv :=
  if R.off then failP R t 3 else if valid then (if R.left = 0 then failP { R with off := true } t 3 else { R with left := (if 0 < R.left then R.left - 1 else R.left), exe := R.exe + 1 }) else failP R t 2
def Dv.isB (R : Dv) (off : Nat) : Bool := decide (off % 8 = 0 ∧ off < 64 * R.lines.length)
def valueP (R : Dv) (off : Nat) : Nat := (allL (R.line (off / 64))).getD (off % 64 / 8) 0
def loadV (R : Dv) (off : Nat) : Nat := if mayB R (R.isB off) then valueP R off else 0
def putP (R : Dv) (off v : Nat) : Dv := R.setLine (off / 64) (putL (R.line (off / 64)) (off, v))
def storeP (R : Dv) (t off v : Nat) : Dv := if countB R (R.isB off) then putP (countP R t (R.isB off)) off v else countP R t (R.isB off)
def casB (R : Dv) (off old : Nat) : Bool := countB R (R.isB off) && decide (valueP R off = old)
def casP (R : Dv) (t off old v : Nat) : Dv := if casB R off old then putP (countP R t (R.isB off)) off v else countP R t (R.isB off)
def noteL (ns : List (Nat × Nat)) (l c : Nat) : List (Nat × Nat) := ns.filter (fun x => decide (x.1 ≠ l)) ++ [(l, c)]
def notedP (R : Dv) (t l : Nat) : Dv := { R with notes := R.notes.set t (noteL (R.notes.getD t []) l ((R.line l).done + (R.line l).hist.length)) }
def Dv.inB (R : Dv) (off : Nat) : Bool := decide (off < 64 * R.lines.length)
def flushP (R : Dv) (t off : Nat) : Dv := if countB R (R.inB off) then notedP (countP R t (R.inB off)) t (off / 64) else countP R t (R.inB off)
def fenceS (ls : List Ln) (x : Nat × Nat) : List Ln := if (ls.getD x.1 ln0).done < x.2 then ls.set x.1 (persistL (ls.getD x.1 ln0) (x.2 - (ls.getD x.1 ln0).done)) else ls
def fencedP (R : Dv) (t : Nat) : Dv := { R with lines := (R.notes.getD t []).foldl fenceS R.lines, notes := R.notes.set t [] }
def fenceP (R : Dv) (t : Nat) : Dv := if countB R true then fencedP (countP R t true) t else countP R t true
def backB (R : Dv) (l k : Int) : Bool := !R.off && decide (0 ≤ l ∧ l < R.lines.length ∧ 0 ≤ k ∧ k ≤ (R.line l.toNat).hist.length)
def backP (R : Dv) (l k : Int) : Dv := if backB R l k then R.setLine l.toNat (persistL (R.line l.toNat) k.toNat) else R
def armP (R : Dv) (n : Int) : Dv := if R.off then R else { R with left := max n (-1) }
def newP (n : Nat) : Dv := ⟨List.replicate n ⟨List.replicate 8 0, [], 0⟩, List.replicate 8 [], List.replicate 8 0, -1, false, 0⟩

/-! ### what holds of every device -/
structure LnOk (i T : Nat) (l : Ln) : Prop where
  b : l.base.length = 8
  bv : ∀ x ∈ l.base, x < 18446744073709551616
  h : ∀ p ∈ l.hist, p.1 / 64 = i ∧ p.1 % 8 = 0 ∧ p.2 < 18446744073709551616
  hl : l.hist.length + l.done ≤ T
structure Dv.Ok (R : Dv) (T : Nat) : Prop where
  t : T ≤ 100000
  n1 : 1 ≤ R.lines.length
  n2 : R.lines.length ≤ 4096
  ln : ∀ i, i < R.lines.length → LnOk i T (R.line i)
  nl : R.notes.length = 8
  nd : ∀ t, t < 8 → ((R.notes.getD t []).map Prod.fst).Nodup
  no : ∀ t, t < 8 → ∀ x ∈ R.notes.getD t [], x.1 < R.lines.length ∧ x.2 ≤ (R.line x.1).done + (R.line x.1).hist.length
  el : R.errs.length = 8
  ev : ∀ e ∈ R.errs, e = 0 ∨ e = 2 ∨ e = 3
  l1 : -1 ≤ R.left
  l2 : R.left ≤ 9223372036854775807
  x : R.exe ≤ T

theorem LnOk.up {i T T' : Nat} {l : Ln} (h : LnOk i T l) (ht : T ≤ T') : LnOk i T' l := ⟨h.b, h.bv, h.h, Nat.le_trans h.hl ht⟩
theorem Dv.Ok.up {R : Dv} {T T' : Nat} (h : R.Ok T) (ht : T ≤ T') (h2 : T' ≤ 100000) : R.Ok T' :=
  ⟨h2, h.n1, h.n2, fun i hi => (h.ln i hi).up ht, h.nl, h.nd, h.no, h.el, h.ev, h.l1, h.l2, Nat.le_trans h.x ht⟩
theorem Dv.Ok.at {R : Dv} {T : Nat} (h : R.Ok T) {l : Ln} (hl : l ∈ R.lines) : ∃ i, i < R.lines.length ∧ LnOk i T l := by
  obtain ⟨i, hi, rfl⟩ := List.getElem_of_mem hl
  refine ⟨i, hi, ?_⟩
  have := h.ln i hi
  unfold Dv.line at this
  rwa [getD_of ln0 (List.getElem?_eq_getElem hi)] at this
theorem Dv.Ok.b8 {R : Dv} {T : Nat} (h : R.Ok T) : ∀ l ∈ R.lines, (Ln.base l).length = 8 := fun l hl => by
  obtain ⟨i, _, h1⟩ := h.at hl; exact h1.b
theorem Dv.Ok.a8 {R : Dv} {T : Nat} (h : R.Ok T) : ∀ l ∈ R.lines, (allL l).length = 8 := fun l hl => by
  unfold allL; rw [wordsL_len]; exact h.b8 l hl
theorem Dv.Ok.perLen {R : Dv} {T : Nat} (h : R.Ok T) : R.perW.length = 8 * R.lines.length := flat_len _ _ h.b8
theorem Dv.Ok.curLen {R : Dv} {T : Nat} (h : R.Ok T) : R.curW.length = 8 * R.lines.length := flat_len _ _ h.a8
theorem Dv.line_get {R : Dv} {i : Nat} (h : i < R.lines.length) : R.lines[i]? = some (R.line i) := get_of_lt ln0 h
theorem fold_setW_lt (ps : List (Nat × Nat)) (B : Nat) : ∀ ws : List Nat, (∀ x ∈ ws, x < B) → (∀ p ∈ ps, p.2 < B) → ∀ x ∈ ps.foldl setW ws, x < B := by
  induction ps with
  | nil => exact fun ws h _ => h
  | cons p ps ih =>
    intro ws h hp
    refine ih _ (fun x hx => ?_) (fun q hq => hp q (List.mem_cons_of_mem _ hq))
    rcases List.mem_or_eq_of_mem_set hx with h1 | rfl
    · exact h x h1
    · exact hp p (List.mem_cons_self ..)
theorem LnOk.words {i T : Nat} {l : Ln} (h : LnOk i T l) (k : Nat) : ∀ x ∈ wordsL l k, x < 18446744073709551616 :=
  fold_setW_lt _ _ _ h.bv (fun p hp => (h.h p (List.mem_of_mem_take hp)).2.2)
theorem LnOk.put {i T : Nat} {l : Ln} (h : LnOk i T l) {off v : Nat} (h1 : off / 64 = i) (h2 : off % 8 = 0) (h3 : v < 18446744073709551616) : LnOk i (T + 1) (putL l (off, v)) := by
  refine ⟨h.b, h.bv, ?_, by have := h.hl; simp [putL]; omega⟩
  intro p hp
  simp only [putL, List.mem_append, List.mem_singleton] at hp
  rcases hp with hp | rfl
  · exact h.h p hp
  · exact ⟨h1, h2, h3⟩
theorem LnOk.persist {i T : Nat} {l : Ln} (h : LnOk i T l) {k : Nat} (hk : k ≤ l.hist.length) : LnOk i T (persistL l k) := by
  refine ⟨by show (wordsL l k).length = 8; rw [wordsL_len]; exact h.b, h.words k, fun p hp => h.h p (List.mem_of_mem_drop hp), ?_⟩
  have := h.hl
  simp only [persistL, List.length_drop]; omega
theorem setLine_line {R : Dv} {i : Nat} (l : Ln) (h : i < R.lines.length) (j : Nat) : (R.setLine i l).line j = if j = i then l else R.line j := getD_set _ _ _ _ _ h
theorem setLine_len (R : Dv) (i : Nat) (l : Ln) : (R.setLine i l).lines.length = R.lines.length := by simp [Dv.setLine]
theorem setLine_ok {R : Dv} {T T' : Nat} (h : R.Ok T) (ht : T ≤ T') (h2 : T' ≤ 100000) {i : Nat} (hi : i < R.lines.length) {l : Ln} (hl : LnOk i T' l) (hd : (R.line i).done + (R.line i).hist.length ≤ l.done + l.hist.length) : (R.setLine i l).Ok T' := by
  refine ⟨h2, by rw [setLine_len]; exact h.n1, by rw [setLine_len]; exact h.n2, ?_, h.nl, h.nd, ?_, h.el, h.ev, h.l1, h.l2, Nat.le_trans h.x ht⟩
  · intro j hj
    rw [setLine_len] at hj
    rw [setLine_line l hi]
    split
    · subst_vars; exact hl
    · exact (h.ln j hj).up ht
  · intro t ht x hx
    obtain ⟨h1, h2⟩ := h.no t ht x hx
    rw [setLine_len, setLine_line l hi]
    refine ⟨h1, ?_⟩
    split
    · rename_i e; rw [e] at h2; omega
    · exact h2
theorem putP_ok {R : Dv} {T : Nat} (h : R.Ok T) (hT : T + 1 ≤ 100000) {off v : Nat} (ho : off < 64 * R.lines.length) (ha : off % 8 = 0) (hv : v < 18446744073709551616) : (putP R off v).Ok (T + 1) := by
  have hl : off / 64 < R.lines.length := by omega
  exact setLine_ok h (by omega) hT hl ((h.ln _ hl).put rfl ha hv) (by simp [putL])
theorem persist_ok {R : Dv} {T : Nat} (h : R.Ok T) {i k : Nat} (hi : i < R.lines.length) (hk : k ≤ (R.line i).hist.length) : (R.setLine i (persistL (R.line i) k)).Ok T :=
  setLine_ok h (Nat.le_refl _) h.t hi ((h.ln i hi).persist hk) (by simp only [persistL, List.length_drop]; omega)
theorem backP_ok {R : Dv} {T : Nat} (h : R.Ok T) (l k : Int) : (backP R l k).Ok T := by
  unfold backP
  split
  · rename_i hb
    simp only [backB, Bool.and_eq_true, decide_eq_true_eq] at hb
    obtain ⟨_, h1, h2, h3, h4⟩ := hb
    exact persist_ok h (by omega) (by omega)
  · exact h
theorem failP_ok {R : Dv} {T : Nat} (h : R.Ok T) (t : Nat) {e : Nat} (he : e = 2 ∨ e = 3) : (failP R t e).Ok T := by
  unfold failP
  split
  · exact ⟨h.t, h.n1, h.n2, h.ln, h.nl, h.nd, h.no, by simpa using h.el, fun x hx => by
      rcases List.mem_or_eq_of_mem_set hx with h1 | rfl
      · exact h.ev x h1
      · exact .inr he, h.l1, h.l2, h.x⟩
  · exact h
theorem off_ok {R : Dv} {T : Nat} (h : R.Ok T) : ({ R with off := true } : Dv).Ok T := ⟨h.t, h.n1, h.n2, h.ln, h.nl, h.nd, h.no, h.el, h.ev, h.l1, h.l2, h.x⟩
theorem mayP_ok {R : Dv} {T : Nat} (h : R.Ok T) (t : Nat) (b : Bool) : (mayP R t b).Ok T := by
  unfold mayP
  split
  · exact failP_ok h t (.inr rfl)
  split
  · exact h
  · exact failP_ok h t (.inl rfl)
theorem step_ok {R : Dv} {T : Nat} (h : R.Ok T) (hT : T + 1 ≤ 100000) : ({ R with left := (if 0 < R.left then R.left - 1 else R.left), exe := R.exe + 1 } : Dv).Ok (T + 1) :=
  ⟨hT, h.n1, h.n2, fun i hi => (h.ln i hi).up (by omega), h.nl, h.nd, h.no, h.el, h.ev, by have := h.l1; show -1 ≤ ite _ _ _; split <;> omega, by have := h.l2; show ite _ _ _ ≤ _; split <;> omega, by have := h.x; show R.exe + 1 ≤ _; omega⟩
theorem countP_ok {R : Dv} {T : Nat} (h : R.Ok T) (hT : T + 1 ≤ 100000) (t : Nat) (b : Bool) : (countP R t b).Ok (T + 1) := by
  unfold countP
  split
  · exact (failP_ok h t (.inr rfl)).up (by omega) hT
  split
  · split
    · exact (failP_ok (off_ok h) t (.inr rfl)).up (by omega) hT
    · exact step_ok h hT
  · exact (failP_ok h t (.inl rfl)).up (by omega) hT
theorem failP_lines (R : Dv) (t e : Nat) : (failP R t e).lines = R.lines ∧ (failP R t e).notes = R.notes ∧ (failP R t e).left = R.left ∧ (failP R t e).off = R.off ∧ (failP R t e).exe = R.exe := by
  unfold failP; split <;> exact ⟨rfl, rfl, rfl, rfl, rfl⟩
theorem mayP_lines (R : Dv) (t : Nat) (b : Bool) : (mayP R t b).lines = R.lines := by
  unfold mayP
  split
  · exact (failP_lines _ _ _).1
  split
  · rfl
  · exact (failP_lines _ _ _).1
theorem countP_lines (R : Dv) (t : Nat) (b : Bool) : (countP R t b).lines = R.lines ∧ (countP R t b).notes = R.notes := by
  unfold countP
  split
  · exact ⟨(failP_lines _ _ _).1, (failP_lines _ _ _).2.1⟩
  split
  · split
    · exact ⟨(failP_lines _ _ _).1, (failP_lines _ _ _).2.1⟩
    · exact ⟨rfl, rfl⟩
  · exact ⟨(failP_lines _ _ _).1, (failP_lines _ _ _).2.1⟩
theorem countP_line (R : Dv) (t : Nat) (b : Bool) (i : Nat) : (countP R t b).line i = R.line i := by unfold Dv.line; rw [(countP_lines R t b).1]
theorem armP_ok {R : Dv} {T : Nat} (h : R.Ok T) {n : Int} (hn : n ≤ 9223372036854775807) : (armP R n).Ok T := by
  unfold armP
  split
  · exact h
  · exact ⟨h.t, h.n1, h.n2, h.ln, h.nl, h.nd, h.no, h.el, h.ev, by show -1 ≤ max n (-1); omega, by show max n (-1) ≤ _; omega, h.x⟩
theorem newP_line (n i : Nat) (h : i < n) : (newP n).line i = ⟨List.replicate 8 0, [], 0⟩ := by
  unfold Dv.line newP; exact getD_of _ (by rw [List.getElem?_replicate, if_pos h])
theorem rep_getD {α : Type} (n i : Nat) (x d : α) (h : i < n) : (List.replicate n x).getD i d = x := getD_of _ (by rw [List.getElem?_replicate, if_pos h])
theorem newP_ok (n : Nat) (h1 : 1 ≤ n) (h2 : n ≤ 4096) : (newP n).Ok 0 := by
  refine ⟨by omega, by simpa [newP] using h1, by simpa [newP] using h2, ?_, by simp [newP], ?_, ?_, by simp [newP], ?_, by simp [newP], by simp [newP], by simp [newP]⟩
  · intro i hi
    rw [newP_line n i (by simpa [newP] using hi)]
    exact ⟨by simp, fun x hx => by rw [List.eq_of_mem_replicate hx]; omega, by simp, by simp⟩
  · intro t ht; rw [show (newP n).notes.getD t [] = [] from rep_getD 8 t [] [] ht]; exact List.nodup_nil
  · intro t ht x hx; rw [show (newP n).notes.getD t [] = [] from rep_getD 8 t [] [] ht] at hx; cases hx
  · intro e he; exact .inl (List.eq_of_mem_replicate he)

/-! ### what becomes of the words -/
theorem putP_per {R : Dv} {off v : Nat} (ho : off < 64 * R.lines.length) : (putP R off v).perW = R.perW :=
  flat_same _ _ _ _ _ (R.line_get (show off / 64 < R.lines.length by omega)) rfl
theorem putP_cur {R : Dv} {T off v : Nat} (h : R.Ok T) (ho : off < 64 * R.lines.length) : (putP R off v).curW = R.curW.set (off / 8) v := by
  have := flat_set allL R.lines h.a8 (off / 64) (off % 64 / 8) _ (putL (R.line (off / 64)) (off, v)) v (R.line_get (show off / 64 < R.lines.length by omega)) (by omega) (by rw [allL_put]; rfl)
  have e : 8 * (off / 64) + off % 64 / 8 = off / 8 := by omega
  rw [e] at this
  exact this
theorem cur_at {R : Dv} {T off : Nat} (h : R.Ok T) (ho : off < 64 * R.lines.length) : R.curW[off / 8]? = some (valueP R off) := by
  have hi : off / 64 < R.lines.length := by omega
  have := flat_get allL R.lines h.a8 (off / 64) (off % 64 / 8) _ (R.line_get hi) (by omega)
  have e : 8 * (off / 64) + off % 64 / 8 = off / 8 := by omega
  rw [e] at this
  unfold Dv.curW
  rw [this]
  exact get_of_lt 0 (by rw [h.a8 _ (List.mem_of_getElem? (R.line_get hi))]; omega)
theorem value_lt {R : Dv} {T off : Nat} (h : R.Ok T) (ho : off < 64 * R.lines.length) : valueP R off < 18446744073709551616 := by
  have hi : off / 64 < R.lines.length := by omega
  exact (h.ln _ hi).words _ _ (mem_getD 0 (by rw [wordsL_len, (h.ln _ hi).b]; omega))
theorem persist_per (ls : List Ln) (h8 : ∀ l ∈ ls, (Ln.base l).length = 8) (i : Nat) (hi : i < ls.length) : ∀ (ps : List (Nat × Nat)), (∀ p ∈ ps, p.1 / 64 = i) → ∀ l : Ln, l.base.length = 8 →
    ∀ l' : Ln, l'.base = ps.foldl setW l.base → (ls.set i l').flatMap Ln.base = ps.foldl setA ((ls.set i l).flatMap Ln.base)
  | [], _, l, hl, l', e => by
    have := flat_same Ln.base (ls.set i l) i l l' (by rw [List.getElem?_set_self hi]) e
    rw [List.set_set] at this
    exact this
  | p :: ps, hp, l, hl, l', e => by
    rw [List.foldl_cons] at e ⊢
    have hl1 : (setW l.base p).length = 8 := by rw [setW_len]; exact hl
    have h1 := persist_per ls h8 i hi ps (fun q hq => hp q (List.mem_cons_of_mem _ hq)) ⟨setW l.base p, [], 0⟩ hl1 l' e
    rw [h1]
    congr 1
    have hpi := hp p (List.mem_cons_self ..)
    have h2 := flat_set Ln.base (ls.set i l) (fun x hx => by
      rcases List.mem_or_eq_of_mem_set hx with h3 | rfl
      · exact h8 x h3
      · exact hl) i (p.1 % 64 / 8) l ⟨setW l.base p, [], 0⟩ p.2 (by rw [List.getElem?_set_self hi]) (by omega) rfl
    rw [List.set_set] at h2
    rw [h2]
    unfold setA
    congr 1
    omega
theorem persistP_per {R : Dv} {T i k : Nat} (h : R.Ok T) (hi : i < R.lines.length) : (R.setLine i (persistL (R.line i) k)).perW = ((R.line i).hist.take k).foldl setA R.perW := by
  have := persist_per R.lines h.b8 i hi ((R.line i).hist.take k) (fun p hp => ((h.ln i hi).h p (List.mem_of_mem_take hp)).1) (R.line i) (h.ln i hi).b (persistL (R.line i) k) rfl
  unfold Dv.line at this
  rw [set_getD_self] at this
  exact this
theorem persistP_cur {R : Dv} {i k : Nat} (hi : i < R.lines.length) (hk : k ≤ (R.line i).hist.length) : (R.setLine i (persistL (R.line i) k)).curW = R.curW :=
  flat_same _ _ _ _ _ (R.line_get hi) (allL_persist _ _ hk)
end Go.Proofs.Ytjmdibgncaljaaa.Dev

/-! Blocks with roles; a slice that lies anywhere in a block of its own, and what is appended to it. -/
namespace Go.Proofs.Ytjmdibgncaljaaa.Dev
open Go.RowKit

/-- Who a block belongs to: the object, the part of it, and which of these parts. -/
abbrev Own := Nat → Option (Nat × Nat × Nat)
def Ext (w : World) (F F' : Own) : Prop := ∀ k, k < w.heap.size → F' k = F k
def Own.put (F : Own) (b : Nat) (r : Nat × Nat × Nat) : Own := fun k => if k = b then some r else F k
theorem Ext.refl (w : World) (F : Own) : Ext w F F := fun _ _ => rfl
theorem Ext.trans {w w' : World} {F F' F'' : Own} (h : Ext w F F') (h' : Ext w' F' F'') (hs : w.heap.size ≤ w'.heap.size) : Ext w F F'' := fun k hk => (h' k (by omega)).trans (h k hk)
theorem Ext.put {w : World} {F F' : Own} (h : Ext w F F') {b : Nat} (hb : w.heap.size ≤ b) (r : Nat × Nat × Nat) : Ext w F (F'.put b r) := fun k hk => by
  unfold Own.put; rw [if_neg (by omega)]; exact h k hk
theorem Own.put_at (F : Own) (b : Nat) (r : Nat × Nat × Nat) : F.put b r b = some r := by simp [Own.put]
theorem Own.put_ne (F : Own) {b k : Nat} (r : Nat × Nat × Nat) (h : k ≠ b) : F.put b r k = F k := by simp [Own.put, h]
theorem Own.ne {F : Own} {a b : Nat} {r s : Nat × Nat × Nat} (h : F a = some r) (h' : F b = some s) (hn : r ≠ s) : a ≠ b := by
  rintro rfl; rw [h] at h'; exact hn (Option.some.inj h')

/-- A slice of n elements that lies anywhere in a block of its own, or nil. -/
def SubV (w : World) (e : TypeId) (size : Nat) (v : Value) (n : Nat) (xs : List Value) : Prop :=
  xs.length = n * size ∧ ((v = .slice none 0 0 ∧ n = 0) ∨ ∃ b off cap cur, v = .slice (some ⟨b, off, none⟩) n cap ∧ w.heap[b]? = some (.cells cur e (0, 0)) ∧ n ≤ cap ∧ cap ≤ maxLen ∧ off + cap * size ≤ cur.size ∧ (cur.toList.drop off).take (n * size) = xs)
theorem SubV.nil (w : World) (e : TypeId) (size : Nat) : SubV w e size (.slice none 0 0) 0 [] := ⟨by simp, .inl ⟨rfl, rfl⟩⟩
theorem SubV.lt {w : World} {e : TypeId} {size : Nat} {v : Value} {n : Nat} {xs : List Value} (h : SubV w e size v n xs) {k : Nat} (hk : v.ownBlock = some k) : k < w.heap.size := by
  rcases h.2 with ⟨rfl, _⟩ | ⟨b, off, cap, cur, rfl, hh, _⟩
  · cases hk
  · simp [Value.ownBlock] at hk; subst hk; exact heap_lt hh
theorem SubV.only {S : Nat → Prop} {w w' : World} {e : TypeId} {size : Nat} {v : Value} {n : Nat} {xs : List Value} (h : SubV w e size v n xs) (ho : Only S w w') (hs : ∀ k, v.ownBlock = some k → ¬ S k) : SubV w' e size v n xs := by
  refine ⟨h.1, ?_⟩
  rcases h.2 with h2 | ⟨b, off, cap, cur, hv, hh, r⟩
  · exact .inl h2
  · exact .inr ⟨b, off, cap, cur, hv, by rw [ho.block b (heap_lt hh) (hs b (by rw [hv]; rfl))]; exact hh, r⟩
theorem SubV.alloc {w : World} {e : TypeId} {size : Nat} {v : Value} {n : Nat} {xs : List Value} (h : SubV w e size v n xs) (x : Obj) : SubV (w.alloc x) e size v n xs := h.only ((Only.refl (fun _ => False) w).alloc x) (fun _ _ s => s)
theorem SubV.rd {w : World} {e : TypeId} {size : Nat} {v : Value} {n : Nat} {xs : List Value} (h : SubV w e size v n xs) : Rd w v n xs := by
  rcases h.2 with ⟨rfl, rfl⟩ | ⟨b, off, cap, cur, rfl, hh, _, _, _, ht⟩
  · exact ⟨none, 0, rfl, .inl ⟨rfl, List.eq_nil_of_length_eq_zero (by simpa using h.1)⟩⟩
  · refine ⟨_, cap, rfl, .inr ⟨b, off, rfl, fun j u hj => ?_⟩⟩
    rw [← ht, List.getElem?_take] at hj
    split at hj
    · rw [List.getElem?_drop] at hj
      simp only [World.cell?, hh]; simpa using hj
    · cases hj
/-- What is left of it behind k elements. -/
theorem SubV.from {w : World} {e : TypeId} {size : Nat} {b off n cap : Nat} {xs : List Value} (h : SubV w e size (.slice (some ⟨b, off, none⟩) n cap) n xs) {k : Nat} (hk : k ≤ n) :
    SubV w e size (.slice (some ⟨b, off + k * size, none⟩) (n - k) (cap - k)) (n - k) (xs.drop (k * size)) := by
  have hmul : k * size + (n - k) * size = n * size := by rw [← Nat.add_mul]; congr 1; omega
  refine ⟨by rw [List.length_drop, h.1]; omega, ?_⟩
  rcases h.2 with ⟨h1, _⟩ | ⟨b', off', cap', cur, hv, hh, h1, h2, h3, h4⟩
  · cases h1
  · simp only [Value.slice.injEq, Option.some.injEq, Addr.mk.injEq, true_and] at hv
    obtain ⟨⟨rfl, rfl, _⟩, rfl⟩ := hv
    have hc : k * size + (cap - k) * size = cap * size := by rw [← Nat.add_mul]; congr 1; omega
    refine .inr ⟨b, off + k * size, cap - k, cur, rfl, hh, by omega, by omega, by omega, ?_⟩
    rw [← h4, ← List.drop_drop, ← hmul, List.drop_take, Nat.add_sub_cancel_left]

theorem SubV.of_own {w : World} {e : TypeId} {size : Nat} {v : Value} {n : Nat} {xs : List Value} (h : w.ownsRow 0 e size v n xs) : SubV w e size v n xs := by
  obtain ⟨h1, h2⟩ := h
  refine ⟨h1, ?_⟩
  rcases h2 with ⟨rfl, rfl⟩ | ⟨g, cap, cur, rfl, _, hh, hn, hm, hz, ht⟩
  · exact .inl ⟨rfl, rfl⟩
  · exact .inr ⟨g, 0, cap, cur, rfl, hh, hn, hm, by omega, by simpa using ht⟩

theorem run_append_sub_room {P : Program} (w : World) (t ty e : TypeId) (i : TypeInfo) (ht : P.underlying t = some (.slice e)) (hi : P.info? e = some i)
    (g off sLen sCap : Nat) (cur : Array Value) (hg : w.heap[g]? = some (.cells cur e (0, 0)))
    (a : Addr) (m c : Nat) (news : List Value) (hl : news.length = m * i.size) (hnews : ∀ j u, news[j]? = some u → w.cell? (a.add j) = some u) (h1 : ∀ u ∈ news, u.oneCell' = true)
    (hroom : sLen + m ≤ sCap) (hfit : off + sLen * i.size + news.length ≤ cur.size) :
    (Builtin.append_ #[t, t] ty #[.slice (some ⟨g, off, none⟩) sLen sCap, .slice (some a) m c]).run P w =
      .ok (.slice (some ⟨g, off, none⟩) (sLen + m) sCap) (w.setRow g (cur.toList.take (off + sLen * i.size) ++ news ++ cur.toList.drop (off + sLen * i.size + news.length)).toArray) := by
  have hf := run_firstCells_some (P := P) w i.size m a m c news hl hnews
  have hst := run_storeCells_at P g (off + sLen * i.size) e news 0 cur w hg (by simpa using hfit) h1
  simp only [Nat.add_zero] at hst
  simp [Builtin.append_, run_underlying ht, sizeOf, typeInfo, hi, Builtin.lenOf, hroom, hf, Addr.add_lit, hst]

/-- An append to such a slice. -/
theorem sub_app {P : Program} (w : World) (t ty e : TypeId) (z : Value) (size bytes : Nat) (ht : P.underlying t = some (.slice e))
    (hi : (P.info? e).map (fun i => (i.zero, i.size, i.bytes)) = some (some z, size, bytes)) (hzs : z.cells.size = size) (hsz : 0 < size) (hby : 0 < bytes)
    (v : Value) (n : Nat) (xs : List Value) (h : SubV w e size v n xs)
    (ad : Addr) (m c : Nat) (news : List Value) (hl : news.length = m * size) (hnews : ∀ j u, news[j]? = some u → w.cell? (ad.add j) = some u) (h1 : ∀ u ∈ news, u.oneCell' = true) (hm : 0 < m)
    (hbytes : (n + m) * bytes ≤ 140737488355328) :
    ∃ b off cap w', (Builtin.append_ #[t, t] ty #[v, .slice (some ad) m c]).run P w = .ok (.slice (some ⟨b, off, none⟩) (n + m) cap) w' ∧
      SubV w' e size (.slice (some ⟨b, off, none⟩) (n + m) cap) (n + m) (xs ++ news) ∧ Only (fun k => v.ownBlock = some k) w w' ∧ (v.ownBlock = some b ∨ w.heap.size ≤ b) := by
  have hown0 : ∀ xs', SubV w e size v n xs' → v = .slice none 0 0 → w.ownsRow 0 e size v n xs' := by
    rintro xs' ⟨h1, h2⟩ rfl
    refine ⟨h1, .inl ⟨rfl, ?_⟩⟩
    rcases h2 with ⟨_, h2⟩ | ⟨b, off, cap, cur, hv, _⟩
    · exact h2
    · cases hv
  rcases h.2 with ⟨rfl, rfl⟩ | ⟨b, off, cap, cur, rfl, hh, hn, hcm, hz, htk⟩
  · obtain ⟨sa, cap, w', hr, ho, hO, hk⟩ := app_run (P := P) w t ty e z size bytes ht hi hzs hsz hby none 0 0 xs (hown0 xs h rfl) ad m c news hl hnews h1 hbytes
    have hS := SubV.of_own ho
    rcases hS.2 with ⟨h2, h3⟩ | ⟨b, off, cap', cur, h2, h3, _⟩
    · omega
    · simp only [Value.slice.injEq, true_and] at h2
      obtain ⟨rfl, rfl⟩ := h2
      exact ⟨b, off, cap, w', hr, hS, hO, by rcases hk b rfl with h4 | h4; exact .inl h4; exact .inr h4⟩
  · obtain ⟨i, hi', hz', hsize, hbb⟩ := info_parts hi
    have hnm : n + m ≤ 140737488355328 := Nat.le_trans (Nat.le_mul_of_pos_right _ hby) hbytes
    by_cases hroom : n + m ≤ cap
    · have hmul : (n + m) * size ≤ cap * size := Nat.mul_le_mul_right _ hroom
      have hadd : (n + m) * size = n * size + m * size := Nat.add_mul _ _ _
      have hr := run_append_sub_room (P := P) w t ty e i ht hi' b off n cap cur hh ad m c news (by rw [hsize]; exact hl) hnews h1 hroom (by rw [hsize, hl]; omega)
      rw [hsize] at hr
      refine ⟨b, off, cap, _, hr, ⟨by rw [List.length_append, h.1, hl, Nat.add_mul], .inr ⟨b, off, cap, _, rfl, setRow_heap w b cur _ e _ hh, hroom, hcm, ?_, ?_⟩⟩, ⟨rfl, rfl, rfl, by simp, fun k _ hk => setRow_other w b k _ (fun e => hk (by simp [Value.ownBlock, e]))⟩, .inl rfl⟩
      · simp only [List.size_toArray, List.length_append, List.length_take, List.length_drop, Array.length_toList]
        omega
      · simp only []
        have hA : (cur.toList.take (off + n * size)).drop off = xs := by rw [← htk, List.drop_take]; congr 1; omega
        have hlen : (cur.toList.take (off + n * size)).length = off + n * size := by rw [List.length_take, Array.length_toList]; omega
        rw [List.append_assoc, List.drop_append_of_le_length (by rw [hlen]; omega), hA, ← List.append_assoc, hadd]
        have : (xs ++ news).length = n * size + m * size := by rw [List.length_append, h.1, hl]
        rw [List.take_append_of_le_length (by omega), List.take_of_length_le (by omega)]
    · have holds : ∀ j u, xs[j]? = some u → w.cell? ((⟨b, off, none⟩ : Addr).add j) = some u := by
        intro j u hj
        have := h.rd
        obtain ⟨a, c', hv, hr⟩ := this
        simp only [Value.slice.injEq, true_and] at hv
        obtain ⟨rfl, rfl⟩ := hv
        rcases hr with ⟨_, rfl⟩ | ⟨b', off', e1, hr⟩
        · cases hj
        · simp only [Option.some.injEq, Addr.mk.injEq, and_true] at e1
          obtain ⟨rfl, rfl⟩ := e1
          rw [Addr.add_lit]; exact hr j u hj
      obtain ⟨v', w', hr, h2, h3⟩ := run_append_arg_grows (P := P) w t ty e i z size bytes ht hi' hz' hsize hbb hzs hsz ⟨b, off, none⟩ n cap xs h.1 holds ad m c news hl hnews (by omega) (by unfold maxLen; omega) hbytes
      rcases h2.2 with ⟨h4, h5⟩ | ⟨g, cap', cur', h4, h5, h6, h7, h8, h9, h10⟩
      · omega
      · subst h4
        refine ⟨g, 0, cap', w', hr, ⟨h2.1, .inr ⟨g, 0, cap', cur', rfl, h6, h7, h8, by omega, by simpa using h10⟩⟩, (Only.of_grown h3).mono (fun k _ e => by cases e), .inr h5⟩

/-- The same as a step of the walk. -/
theorem wpList_appSub {P : Program} {w : World} {ops : Array Oper} {rest : List Oper} {o : Oper} {a : Act} {Q : Exit → Act → World → Prop} (hgd : o.guard = none) (s x : Operand) (t : TypeId)
    (ho : o.op = .call { callee := .builtin .append, args := #[s, x], argTypes := #[t, t] })
    (e : TypeId) (z : Value) (size bytes : Nat) (ht : P.underlying t = some (.slice e))
    (hi : (P.info? e).map (fun i => (i.zero, i.size, i.bytes)) = some (some z, size, bytes)) (hzs : z.cells.size = size) (hsz : 0 < size) (hby : 0 < bytes)
    (v : Value) (n : Nat) (xs : List Value) (hown : SubV w e size v n xs) (hs : a.eval s = v)
    (ad : Addr) (m c : Nat) (news : List Value) (hx : a.eval x = .slice (some ad) m c) (hl : news.length = m * size) (hnews : ∀ j u, news[j]? = some u → w.cell? (ad.add j) = some u) (h1 : ∀ u ∈ news, u.oneCell' = true) (hm : 0 < m)
    (hbytes : (n + m) * bytes ≤ 140737488355328)
    (h : ∀ b off cap w', SubV w' e size (.slice (some ⟨b, off, none⟩) (n + m) cap) (n + m) (xs ++ news) → Only (fun k => v.ownBlock = some k) w w' → (v.ownBlock = some b ∨ w.heap.size ≤ b) →
      wpList P ops Q rest (a.put o.dst (.slice (some ⟨b, off, none⟩) (n + m) cap)) w') :
    wpList P ops Q (o :: rest) a w := by
  refine wpList_plain hgd fun K hK => ?_
  obtain ⟨b, off, cap, w', hr, h2, h3, h4⟩ := sub_app (P := P) w t o.type e z size bytes ht hi hzs hsz hby v n xs hown ad m c news hl hnews h1 hm hbytes
  unfold Oper.wp execOp
  simp only [ho, resolve, invoke, builtin, Sem.run_bind, Sem.run_pure, Result.andThen_ok, List.map_toArray, List.map_cons, List.map_nil, hs, hx, hr]
  exact hK _ _ (h b off cap w' h2 h3 h4)
/-- The same as a step of a region that draws its order. -/
theorem step_appSub {P : Program} {w : World} {ops : Array Oper} {o : Oper} {a : Act} {K : Act → World → Prop} {Q : Exit → Act → World → Prop} {E : Prop} (hgd : o.guard = none) (s x : Operand) (t : TypeId)
    (ho : o.op = .call { callee := .builtin .append, args := #[s, x], argTypes := #[t, t] })
    (e : TypeId) (z : Value) (size bytes : Nat) (ht : P.underlying t = some (.slice e))
    (hi : (P.info? e).map (fun i => (i.zero, i.size, i.bytes)) = some (some z, size, bytes)) (hzs : z.cells.size = size) (hsz : 0 < size) (hby : 0 < bytes)
    (v : Value) (n : Nat) (xs : List Value) (hown : SubV w e size v n xs) (hs : a.eval s = v)
    (ad : Addr) (m c : Nat) (news : List Value) (hx : a.eval x = .slice (some ad) m c) (hl : news.length = m * size) (hnews : ∀ j u, news[j]? = some u → w.cell? (ad.add j) = some u) (h1 : ∀ u ∈ news, u.oneCell' = true) (hm : 0 < m)
    (hbytes : (n + m) * bytes ≤ 140737488355328)
    (h : ∀ b off cap w', SubV w' e size (.slice (some ⟨b, off, none⟩) (n + m) cap) (n + m) (xs ++ news) → Only (fun k => v.ownBlock = some k) w w' → (v.ownBlock = some b ∨ w.heap.size ≤ b) →
      K (a.put o.dst (.slice (some ⟨b, off, none⟩) (n + m) cap)) w') :
    if Region.wanted o (yielded ops a.tmps) = true then Oper.wp P o a w K Q else E := by
  have hw : Region.wanted o (yielded ops a.tmps) = true := by simp [Region.wanted, hgd]
  rw [if_pos hw]
  obtain ⟨b, off, cap, w', hr, h2, h3, h4⟩ := sub_app (P := P) w t o.type e z size bytes ht hi hzs hsz hby v n xs hown ad m c news hl hnews h1 hm hbytes
  unfold Oper.wp execOp
  simp only [ho, resolve, invoke, builtin, Sem.run_bind, Sem.run_pure, Result.andThen_ok, List.map_toArray, List.map_cons, List.map_nil, hs, hx, hr]
  exact h b off cap w' h2 h3 h4
/-- An append to a row of the call's own as a step of a region that draws its order. -/
theorem step_app2 {P : Program} {w : World} {ops : Array Oper} {o : Oper} {a : Act} {K : Act → World → Prop} {Q : Exit → Act → World → Prop} {E : Prop} (hgd : o.guard = none) (s x : Operand) (t : TypeId)
    (ho : o.op = .call { callee := .builtin .append, args := #[s, x], argTypes := #[t, t] })
    (e : TypeId) (z : Value) (size bytes : Nat) (ht : P.underlying t = some (.slice e))
    (hi : (P.info? e).map (fun i => (i.zero, i.size, i.bytes)) = some (some z, size, bytes)) (hzs : z.cells.size = size) (hsz : 0 < size) (hby : 0 < bytes)
    (sa : Option Addr) (n cap : Nat) (xs : List Value) (hown : w.ownsRow 0 e size (.slice sa n cap) n xs) (hs : a.eval s = .slice sa n cap)
    (ad : Addr) (m c : Nat) (news : List Value) (hx : a.eval x = .slice (some ad) m c) (hl : news.length = m * size) (hnews : ∀ j u, news[j]? = some u → w.cell? (ad.add j) = some u) (h1 : ∀ u ∈ news, u.oneCell' = true)
    (hbytes : (n + m) * bytes ≤ 140737488355328)
    (h : ∀ sa' cap' w', w'.ownsRow 0 e size (.slice sa' (n + m) cap') (n + m) (xs ++ news) → Only (fun k => Value.ownBlock (.slice sa n cap) = some k) w w' →
      (∀ k, Value.ownBlock (.slice sa' (n + m) cap') = some k → Value.ownBlock (.slice sa n cap) = some k ∨ w.heap.size ≤ k) → K (a.put o.dst (.slice sa' (n + m) cap')) w') :
    if Region.wanted o (yielded ops a.tmps) = true then Oper.wp P o a w K Q else E := by
  have hw : Region.wanted o (yielded ops a.tmps) = true := by simp [Region.wanted, hgd]
  rw [if_pos hw]
  obtain ⟨sa', cap', w', hr, h2, h3, h4⟩ := app_run (P := P) w t o.type e z size bytes ht hi hzs hsz hby sa n cap xs hown ad m c news hl hnews h1 hbytes
  unfold Oper.wp execOp
  simp only [ho, resolve, invoke, builtin, Sem.run_bind, Sem.run_pure, Result.andThen_ok, List.map_toArray, List.map_cons, List.map_nil, hs, hx, hr]
  exact h sa' cap' w' h2 h3 h4
/-- The two cells of a pair that has just been boxed in block g, as what is appended. -/
theorem news_two {w : World} {g : Nat} {x y : Value} (h0 : w.cell? ⟨g, 0, none⟩ = some x) (h1 : w.cell? ⟨g, 1, none⟩ = some y) : ∀ j u, [x, y][j]? = some u → w.cell? ((⟨g, 0, none⟩ : Addr).add j) = some u := by
  intro j u hj
  match j, hj with
  | 0, hj => simp at hj; subst hj; simpa [Addr.add] using h0
  | 1, hj => simp at hj; subst hj; simpa [Addr.add] using h1
  | j + 2, hj => simp at hj
end Go.Proofs.Ytjmdibgncaljaaa.Dev

/-! Both devices in memory: the program's and the reference's, in the state of one and the same Dv. -/
namespace Go.Proofs.Ytjmdibgncaljaaa.Dev
open Go.RowKit Go.Maps

theorem key3 : Keyed Try.prog 3 := int_keyed Try.underlying3
theorem zero46 (w : World) : (zeroValue 27).run Try.prog w = .ok (.int .u64 0) w := by kernel_rfl
theorem infoW : (Try.prog.info? 133).map (fun i => (i.zero, i.size, i.bytes)) = some (some (.agg #[.int .u64 0, .int .u64 0]), 2, 16) := by kernel_rfl
theorem infoU64 : (Try.prog.info? 27).map (fun i => (i.zero, i.size, i.bytes)) = some (some (.int .u64 0), 1, 8) := by kernel_rfl
theorem infoInt : (Try.prog.info? 3).map (fun i => (i.zero, i.size, i.bytes)) = some (some (.int .i64 0), 1, 8) := by kernel_rfl
theorem infoU8 : (Try.prog.info? 5).map (fun i => (i.zero, i.size, i.bytes)) = some (some (.int .u8 0), 1, 1) := by kernel_rfl
theorem wf_i64 {n : Nat} (h : n < 9223372036854775808) : (Lit.int .i64 (n : Int)).wf = true := WalkArith.wf_i64 (by omega)
theorem wf_u64 {n : Nat} (h : n < 18446744073709551616) : (Lit.int .u64 (n : Int)).wf = true := by
  simp only [Lit.wf, Bool.and_eq_true, decide_eq_true_eq]
  exact ⟨by rw [show IntKind.min .u64 = 0 from by decide]; omega, by rw [show IntKind.max .u64 = 18446744073709551615 from by decide]; omega⟩

def u64s (l : List Nat) : List Value := l.map fun (n : Nat) => .int .u64 (n : Int)
def nats (l : List Nat) : List Value := l.map fun (n : Nat) => .int .i64 (n : Int)
def u8s (l : List Nat) : List Value := l.map fun (n : Nat) => .int .u8 (n : Int)
theorem u64s_get (l : List Nat) (i n : Nat) (h : l[i]? = some n) : (u64s l)[i]? = some (.int .u64 (n : Int)) := by simp [u64s, h]
theorem nats_get (l : List Nat) (i n : Nat) (h : l[i]? = some n) : (nats l)[i]? = some (.int .i64 (n : Int)) := by simp [nats, h]
theorem u8s_get (l : List Nat) (i n : Nat) (h : l[i]? = some n) : (u8s l)[i]? = some (.int .u8 (n : Int)) := by simp [u8s, h]
theorem u64s_set (l : List Nat) (i v : Nat) : u64s (l.set i v) = (u64s l).set i (.int .u64 (v : Int)) := by unfold u64s; rw [List.map_set]
theorem u64s_len (l : List Nat) : (u64s l).length = l.length := by simp [u64s]
/-- A word of a list (a plain name, so that nothing opens it). -/
def wat (ws : List Nat) (j : Nat) : Nat := ws.getD j 0
def wcells (ws : List (Nat × Nat)) : List Value := ws.flatMap fun p => [.int .u64 p.1, .int .u64 p.2]
theorem wcells_get : ∀ (ws : List (Nat × Nat)) (i : Nat) (p : Nat × Nat), ws[i]? = some p → (wcells ws)[i * 2]? = some (.int .u64 p.1) ∧ (wcells ws)[i * 2 + 1]? = some (.int .u64 p.2)
  | q :: ws, 0, p, h => by simp at h; subst h; exact ⟨rfl, rfl⟩
  | q :: ws, i + 1, p, h => by
    have := wcells_get ws i p (by simpa using h)
    have e1 : (i + 1) * 2 = i * 2 + 2 := by omega
    rw [e1]
    exact this
  | [], _, _, h => by simp at h
theorem wcells_len (ws : List (Nat × Nat)) : (wcells ws).length = ws.length * 2 := by
  induction ws with
  | nil => rfl
  | cons s l ih => simp only [wcells, List.flatMap_cons, List.length_append, List.length_cons] at *; rw [ih]; show 2 + _ = _; omega
theorem wcells_snoc (ws : List (Nat × Nat)) (p : Nat × Nat) : wcells (ws ++ [p]) = wcells ws ++ [.int .u64 p.1, .int .u64 p.2] := by simp [wcells]
theorem wcells_append (ws vs : List (Nat × Nat)) : wcells (ws ++ vs) = wcells ws ++ wcells vs := by simp [wcells]
theorem wcells_drop (ws : List (Nat × Nat)) (k : Nat) : (wcells ws).drop (k * 2) = wcells (ws.drop k) := by
  have h := wcells_append (ws.take k) (ws.drop k)
  rw [List.take_append_drop] at h
  rw [h]
  rcases Nat.lt_or_ge ws.length k with hk | hk
  · rw [List.drop_eq_nil_of_le (Nat.le_of_lt hk), List.drop_eq_nil_of_le (by rw [List.length_append, wcells_len, List.length_take]; simp [wcells]; omega)]; rfl
  · have : k * 2 = (wcells (ws.take k)).length := by rw [wcells_len, List.length_take]; omega
    rw [this, List.drop_left]
theorem wcells_take (ws : List (Nat × Nat)) (k : Nat) : (wcells ws).take (k * 2) = wcells (ws.take k) := by
  have h := wcells_append (ws.take k) (ws.drop k)
  rw [List.take_append_drop] at h
  rw [h]
  rcases Nat.lt_or_ge ws.length k with hk | hk
  · rw [List.drop_eq_nil_of_le (Nat.le_of_lt hk)]
    rw [List.take_of_length_le (by rw [List.length_append, wcells_len, List.length_take]; simp [wcells]; omega)]; simp [wcells]
  · have : k * 2 = (wcells (ws.take k)).length := by rw [wcells_len, List.length_take]; omega
    rw [this, List.take_left]

/-- A thread's notes as a map. -/
def noteF (ns : List (Nat × Nat)) (l : Nat) : Option Nat := (ns.find? (fun x => decide (x.1 = l))).map Prod.snd
def NoteV (w : World) (b T n : Nat) (f : Nat → Option Nat) : Prop :=
  ∃ D : DataW Unit, w.ownsMap Try.prog 3 (plainElem Try.prog 27) b T D ∧ IsMap D ∧ (∀ kl : Lit, has D kl = true → ∃ k : Nat, k < n ∧ kl = .int .i64 k) ∧
    (∀ k : Nat, has D (.int .i64 k) = (f k).isSome) ∧ ∀ k c : Nat, f k = some c → ∀ z, D.atKey (.int .i64 k) z = .lit (.int .u64 c)
theorem NoteV.only {S : Nat → Prop} {w w' : World} {b T n : Nat} {f : Nat → Option Nat} (h : NoteV w b T n f) (ho : Only S w w') (hs : ¬ S b) : NoteV w' b T n f := by
  obtain ⟨D, h1, h2⟩ := h
  obtain ⟨es, cl, hb, r⟩ := h1
  exact ⟨D, ⟨es, cl, (ho.block b (heap_lt hb) hs).trans hb, r⟩, h2⟩
theorem NoteV.up {w : World} {b T T' n : Nat} {f : Nat → Option Nat} (h : NoteV w b T n f) (ht : T ≤ T') : NoteV w b T' n f := by
  obtain ⟨D, h1, h2⟩ := h; exact ⟨D, h1.mono ht, h2⟩
theorem NoteV.lt {w : World} {b T n : Nat} {f : Nat → Option Nat} (h : NoteV w b T n f) : b < w.heap.size := by
  obtain ⟨D, ⟨es, cl, hb, _⟩, _⟩ := h; exact heap_lt hb
theorem NoteV.put {w' : World} {b T n l c : Nat} {f : Nat → Option Nat} {D : DataW Unit} (hl : l < n) (hl2 : l < 9223372036854775808) (hD2 : IsMap D)
    (hD3 : ∀ kl : Lit, has D kl = true → ∃ k : Nat, k < n ∧ kl = .int .i64 k) (hD4 : ∀ k : Nat, has D (.int .i64 k) = (f k).isSome) (hD5 : ∀ k c : Nat, f k = some c → ∀ z, D.atKey (.int .i64 k) z = .lit (.int .u64 c))
    (h : w'.ownsMap Try.prog 3 (plainElem Try.prog 27) b T (D.put (.int .i64 l) (.lit (.int .u64 c)))) : NoteV w' b T n (fun k => if k = l then some c else f k) := by
  have hk := key3.key (keyOf_int_mk Try.underlying3 (wf_i64 hl2))
  refine ⟨_, h, hD2.put _ _, ?_, ?_, ?_⟩
  · intro kl hh
    by_cases he : kl = .int .i64 l
    · exact ⟨l, hl, he⟩
    · rw [has_put_other he] at hh; exact hD3 kl hh
  · intro k
    by_cases he : k = l
    · subst he; rw [has_put_same hD2 hk]; simp
    · rw [has_put_other (by intro h; injection h with _ h; omega)]; simp only [if_neg he]; exact hD4 k
  · intro k c' hc z
    simp only at hc
    by_cases he : k = l
    · subst he; rw [if_pos rfl] at hc; cases hc; exact atKey_put_same hD2 hk _ _
    · rw [if_neg he] at hc; rw [atKey_put_other (by intro h; injection h with _ h; omega)]; exact hD5 k c' hc z
theorem NoteV.none {w : World} {b T n : Nat} (h : w.ownsMap Try.prog 3 (plainElem (H := Unit) Try.prog 27) b 0 (.map [])) : NoteV w b T n (fun _ => none) :=
  ⟨.map [], h.mono (Nat.zero_le _), ⟨[], rfl⟩, fun kl hk => by simp [has] at hk, fun k => rfl, fun k c hc => by cases hc⟩
theorem noteF_noteL (ns : List (Nat × Nat)) (l c : Nat) : noteF (noteL ns l c) = fun k => if k = l then some c else noteF ns k := by
  funext k
  unfold noteF noteL
  rw [List.find?_append]
  by_cases hk : k = l
  · subst hk
    rw [if_pos rfl]
    have : (ns.filter (fun x => decide (x.1 ≠ k))).find? (fun x => decide (x.1 = k)) = none := by
      rw [List.find?_eq_none]; intro x hx; rw [List.mem_filter] at hx; simpa using hx.2
    rw [this]; simp
  · rw [if_neg hk, List.find?_filter]
    have e : (fun a : Nat × Nat => (decide (decide (a.1 ≠ l) = true ∧ decide (a.1 = k) = true) : Bool)) = fun a => decide (a.1 = k) := by
      funext a; apply decide_eq_decide.2; constructor
      · rintro ⟨_, h⟩; simpa using h
      · intro h; simp [h, hk]
    rw [e]
    have : [(l, c)].find? (fun x : Nat × Nat => decide (x.1 = k)) = none := by simp only [List.find?_cons, List.find?_nil, decide_eq_false (show ¬ l = k from fun h => hk h.symm)]
    rw [this]; simp

/-- Where the program's device lies. -/
structure Lay where
  g : Nat
  pb : Nat
  pc : Nat
  cb : Nat
  cc : Nat
  lb : Nat
  tb : Nat → Nat
  nb : Nat → Nat
def devCells (L : Lay) (R : Dv) : List Value :=
  [.slice (some ⟨L.pb, 0, none⟩) (R.lines.length * 8) L.pc, .slice (some ⟨L.cb, 0, none⟩) (R.lines.length * 8) L.cc, .slice (some ⟨L.lb, 0, none⟩) R.lines.length R.lines.length,
   .pointer (some ⟨L.tb 0, 0, none⟩), .pointer (some ⟨L.tb 1, 0, none⟩), .pointer (some ⟨L.tb 2, 0, none⟩), .pointer (some ⟨L.tb 3, 0, none⟩), .pointer (some ⟨L.tb 4, 0, none⟩), .pointer (some ⟨L.tb 5, 0, none⟩), .pointer (some ⟨L.tb 6, 0, none⟩), .pointer (some ⟨L.tb 7, 0, none⟩),
   .bool R.off, .bool (decide (0 ≤ R.left)), .int .i64 (max R.left 0), .int .u64 (R.exe : Int)]
theorem devCells_thr (L : Lay) (R : Dv) (t : Nat) (ht : t < 8) : (devCells L R)[3 + t]? = some (.pointer (some ⟨L.tb t, 0, none⟩)) := by
  match t, ht with
  | 0, _ | 1, _ | 2, _ | 3, _ | 4, _ | 5, _ | 6, _ | 7, _ => rfl
def thrCells (L : Lay) (R : Dv) (t : Nat) : List Value := [.pointer (some ⟨L.g, 0, none⟩), .int .i64 (t : Int), .int .i64 ((R.errs.getD t 0 : Nat) : Int), .map (some (L.nb t))]
/-- What the lines' block holds. -/
def LinSt (w : World) (F : Own) (o lb : Nat) (R : Dv) : Prop :=
  ∃ (cs : List Value) (hv : Nat → Value), Has w lb cs 176 ∧ cs.length = R.lines.length * 2 ∧ ∀ i, i < R.lines.length → cs[i * 2]? = some (.int .u64 ((R.line i).done : Int)) ∧ cs[i * 2 + 1]? = some (hv i) ∧
    SubV w 133 2 (hv i) (R.line i).hist.length (wcells (R.line i).hist) ∧ ∀ k, (hv i).ownBlock = some k → F k = some (o, 4, i)
structure DevSt (w : World) (F : Own) (o : Nat) (L : Lay) (T : Nat) (R : Dv) : Prop where
  ok : R.Ok T
  dev : Has w L.g (devCells L R) 147
  fg : F L.g = some (o, 0, 0)
  per : w.ownsRow 0 27 1 (.slice (some ⟨L.pb, 0, none⟩) (R.lines.length * 8) L.pc) (R.lines.length * 8) (u64s R.perW)
  fp : F L.pb = some (o, 1, 0)
  cur : w.ownsRow 0 27 1 (.slice (some ⟨L.cb, 0, none⟩) (R.lines.length * 8) L.cc) (R.lines.length * 8) (u64s R.curW)
  fc : F L.cb = some (o, 2, 0)
  lin : LinSt w F o L.lb R
  fl : F L.lb = some (o, 3, 0)
  thr : ∀ t, t < 8 → Has w (L.tb t) (thrCells L R t) 174 ∧ F (L.tb t) = some (o, 5, t)
  nov : ∀ t, t < 8 → NoteV w (L.nb t) T R.lines.length (noteF (R.notes.getD t [])) ∧ F (L.nb t) = some (o, 6, t)

theorem LinSt.kept {S : Nat → Prop} {w w' : World} {F F' : Own} {o lb : Nat} {R : Dv} (h : LinSt w F o lb R) (hl : F lb = some (o, 3, 0)) (ho : Only S w w') (hx : Ext w F F') (hs : ∀ k, S k → F k ≠ some (o, 3, 0) ∧ ∀ i, F k ≠ some (o, 4, i)) : LinSt w' F' o lb R := by
  obtain ⟨cs, hv, h1, h2, h3⟩ := h
  refine ⟨cs, hv, h1.only ho (fun s => (hs _ s).1 hl), h2, fun i hi => ?_⟩
  obtain ⟨a, b, c, d⟩ := h3 i hi
  exact ⟨a, b, c.only ho (fun k hk s => (hs k s).2 i (d k hk)), fun k hk => (hx k (c.lt hk)).trans (d k hk)⟩
theorem DevSt.kept {S : Nat → Prop} {w w' : World} {F F' : Own} {o T : Nat} {L : Lay} {R : Dv} (h : DevSt w F o L T R) (ho : Only S w w') (hx : Ext w F F') (hs : ∀ k r, S k → F k ≠ some (o, r)) : DevSt w' F' o L T R := by
  have e : ∀ {b r}, F b = some (o, r) → b < w.heap.size → F' b = some (o, r) := fun h1 h2 => (hx _ h2).trans h1
  refine ⟨h.ok, h.dev.only ho (fun s => hs _ _ s h.fg), e h.fg h.dev.lt, ownsRow_only h.per ho ?_, e h.fp (ownsRow_lt h.per rfl), ownsRow_only h.cur ho ?_, e h.fc (ownsRow_lt h.cur rfl),
    h.lin.kept h.fl ho hx (fun k s => ⟨hs k _ s, fun i => hs k _ s⟩), ?_, fun t ht => ?_, fun t ht => ?_⟩
  · rintro k hk s; cases hk; exact hs _ _ s h.fp
  · rintro k hk s; cases hk; exact hs _ _ s h.fc
  · obtain ⟨cs, hv, h1, _⟩ := h.lin; exact e h.fl h1.lt
  · obtain ⟨h1, h2⟩ := h.thr t ht; exact ⟨h1.only ho (fun s => hs _ _ s h2), e h2 h1.lt⟩
  · obtain ⟨h1, h2⟩ := h.nov t ht; exact ⟨h1.only ho (fun s => hs _ _ s h2), e h2 h1.lt⟩
theorem DevSt.below {w w' : World} {F : Own} {o T : Nat} {L : Lay} {R : Dv} (h : DevSt w F o L T R) (hb : Below w.heap.size w w') : DevSt w' F o L T R :=
  have hO : Only (fun _ => False) w w' := ⟨hb.os, hb.tape, hb.output, hb.size, fun k hk _ => hb.block k hk⟩
  h.kept hO (Ext.refl _ _) (fun _ _ s => s.elim)
theorem DevSt.drewN {w : World} {F : Own} {o T : Nat} {L : Lay} {R : Dv} (h : DevSt w F o L T R) (n : Nat) : DevSt (w.drewN n) F o L T R := h.kept ((Only.refl (fun _ => False) w).drewN n) (Ext.refl _ _) (fun _ _ s => s.elim)
theorem DevSt.alloc {w : World} {F : Own} {o T : Nat} {L : Lay} {R : Dv} (h : DevSt w F o L T R) (x : Obj) : DevSt (w.alloc x) F o L T R := h.kept ((Only.refl (fun _ => False) w).alloc x) (Ext.refl _ _) (fun _ _ s => s.elim)
theorem DevSt.up {w : World} {F : Own} {o T T' : Nat} {L : Lay} {R : Dv} (h : DevSt w F o L T R) (ht : T ≤ T') (h2 : T' ≤ 100000) : DevSt w F o L T' R :=
  ⟨h.ok.up ht h2, h.dev, h.fg, h.per, h.fp, h.cur, h.fc, h.lin, h.fl, h.thr, fun t h8 => ⟨(h.nov t h8).1.up ht, (h.nov t h8).2⟩⟩

/-- A slice that is only read, in a block with a role. -/
def RdO (w : World) (F : Own) (r : Nat × Nat × Nat) (v : Value) (n : Nat) (cells : List Value) : Prop := Rd w v n cells ∧ (cells ≠ [] → ∀ k, v.ownBlock = some k → F k = some r) ∧ ∀ a m c, v = .slice a m c → m ≤ c ∧ (a = none → c = 0)
theorem RdO.kept {S : Nat → Prop} {w w' : World} {F F' : Own} {r : Nat × Nat × Nat} {v : Value} {n : Nat} {cells : List Value} (h : RdO w F r v n cells) (ho : Only S w w') (hx : Ext w F F') (hs : ∀ k, S k → F k ≠ some r) : RdO w' F' r v n cells := by
  by_cases hc : cells = []
  · subst hc
    obtain ⟨⟨a, cap, rfl, h1⟩, _, hcap⟩ := h
    refine ⟨⟨a, cap, rfl, ?_⟩, fun h => absurd rfl h, hcap⟩
    rcases h1 with h1 | ⟨b, off, rfl, _⟩
    · exact .inl h1
    · exact .inr ⟨b, off, rfl, fun j u hj => by simp at hj⟩
  · have hk := h.2.1 hc
    exact ⟨h.1.only ho (fun k e s => hs k s (hk k e)), fun _ k e => (hx k (h.1.lt hc e)).trans (hk k e), h.2.2⟩
theorem own_cap {w : World} {e : TypeId} {size n : Nat} {v : Value} {xs : List Value} (h : w.ownsRow 0 e size v n xs) : ∀ a m c, v = .slice a m c → m ≤ c ∧ (a = none → c = 0) := by
  rintro a m c rfl
  rcases h.2 with ⟨h1, _⟩ | ⟨g, cap, cur, h1, _, _, h2, _⟩
  · cases h1; exact ⟨Nat.le_refl _, fun _ => rfl⟩
  · cases h1; exact ⟨h2, fun h => by cases h⟩
def noteCells (ns : List (Nat × Nat)) : List Value := ns.flatMap fun p => [.int .i64 p.1, .int .i64 p.2]
def refCells (lb lc : Nat) (ns : Nat → Value) (R : Dv) : List Value :=
  [.slice (some ⟨lb, 0, none⟩) R.lines.length lc, ns 0, ns 1, ns 2, ns 3, ns 4, ns 5, ns 6, ns 7,
   .int .i64 ((R.errs.getD 0 0 : Nat) : Int), .int .i64 ((R.errs.getD 1 0 : Nat) : Int), .int .i64 ((R.errs.getD 2 0 : Nat) : Int), .int .i64 ((R.errs.getD 3 0 : Nat) : Int),
   .int .i64 ((R.errs.getD 4 0 : Nat) : Int), .int .i64 ((R.errs.getD 5 0 : Nat) : Int), .int .i64 ((R.errs.getD 6 0 : Nat) : Int), .int .i64 ((R.errs.getD 7 0 : Nat) : Int),
   .int .i64 R.left, .bool R.off, .int .u64 (R.exe : Int)]
theorem refCells_note (lb lc : Nat) (ns : Nat → Value) (R : Dv) (t : Nat) (ht : t < 8) : (refCells lb lc ns R)[1 + t]? = some (ns t) := by
  match t, ht with
  | 0, _ | 1, _ | 2, _ | 3, _ | 4, _ | 5, _ | 6, _ | 7, _ => rfl
theorem refCells_err (lb lc : Nat) (ns : Nat → Value) (R : Dv) (t : Nat) (ht : t < 8) : (refCells lb lc ns R)[9 + t]? = some (.int .i64 ((R.errs.getD t 0 : Nat) : Int)) := by
  match t, ht with
  | 0, _ | 1, _ | 2, _ | 3, _ | 4, _ | 5, _ | 6, _ | 7, _ => rfl
end Go.Proofs.Ytjmdibgncaljaaa.Dev

/-! The program's device: fail, on, counted, word, Size, Lines. -/
namespace Go.Proofs.Ytjmdibgncaljaaa.Dev
open Go.RowKit Go.Maps

/-- Blocks of object o. -/
def Mine (F : Own) (o k : Nat) : Prop := ∃ r, F k = some (o, r)
/-- What a call that works on object o does to the heap. -/
structure Dstep (w : World) (F : Own) (o : Nat) (w' : World) (F' : Own) : Prop where
  ext : Ext w F F'
  only : Only (Mine F o) w w'
theorem Dstep.refl (w : World) (F : Own) (o : Nat) : Dstep w F o w F := ⟨Ext.refl _ _, Only.refl _ _⟩
theorem Dstep.trans {w w1 w2 : World} {F F1 F2 : Own} {o : Nat} (h : Dstep w F o w1 F1) (h' : Dstep w1 F1 o w2 F2) : Dstep w F o w2 F2 :=
  ⟨h.ext.trans h'.ext h.only.size, h.only.trans' h'.only fun k hk ⟨r, s⟩ => ⟨r, by rw [← h.ext k hk]; exact s⟩⟩
theorem Dstep.drewN {w w1 : World} {F F1 : Own} {o : Nat} (h : Dstep w F o w1 F1) (n : Nat) : Dstep w F o (w1.drewN n) F1 := ⟨h.ext, h.only.drewN n⟩
theorem Dstep.alloc {w w1 : World} {F F1 : Own} {o : Nat} (h : Dstep w F o w1 F1) (x : Obj) : Dstep w F o (w1.alloc x) F1 := ⟨h.ext, h.only.alloc x⟩
theorem Dstep.set {w w1 : World} {F F1 : Own} {o : Nat} (h : Dstep w F o w1 F1) {a : Addr} {r : Nat × Nat} (ha : F1 a.block = some (o, r)) (v : Value) : Dstep w F o (w1.setCell a v) F1 :=
  ⟨h.ext, h.only.setCell (fun hk => ⟨r, by rw [← h.ext _ hk]; exact ha⟩) v⟩
theorem Dstep.below {w w1 : World} {F : Own} {o : Nat} (h : Below w.heap.size w w1) : Dstep w F o w1 F :=
  ⟨Ext.refl _ _, ⟨h.os, h.tape, h.output, h.size, fun k hk _ => h.block k hk⟩⟩
theorem Dstep.mk' {S : Nat → Prop} {w w1 : World} {F : Own} {o : Nat} (h : Only S w w1) (hs : ∀ k, S k → Mine F o k) : Dstep w F o w1 F := ⟨Ext.refl _ _, h.mono fun k _ s => hs k s⟩
theorem DevSt.other {w w' : World} {F F' : Own} {o o' T : Nat} {L : Lay} {R : Dv} (h : DevSt w F o L T R) (hd : Dstep w F o' w' F') (hn : o ≠ o') : DevSt w' F' o L T R :=
  h.kept hd.only hd.ext fun k r ⟨s, e⟩ e' => by rw [e] at e'; cases e'; exact hn rfl
/-- Below B there is no block of any object. -/
def Free (F : Own) (B : Nat) : Prop := ∀ k, k < B → F k = none
theorem Free.step {w w' : World} {F F' : Own} {o B : Nat} (h : Free F B) (hd : Dstep w F o w' F') (hB : B ≤ w.heap.size) : Free F' B := fun k hk => (hd.ext k (by omega)).trans (h k hk)
theorem Free.below {w w' : World} {F F' : Own} {o B : Nat} (h : Free F B) (hd : Dstep w F o w' F') (hB : B ≤ w.heap.size) : Below B w w' :=
  hd.only.below hB fun k hk ⟨r, s⟩ => by
    rcases Nat.lt_or_ge k B with h1 | h1
    · rw [h k h1] at s; cases s
    · exact h1

def DPost (w : World) (F : Own) (o : Nat) (L : Lay) (T : Nat) (R : Dv) (v : Value) (e : Ending) (w' : World) : Prop :=
  ∃ F', e = .returned v ∧ DevSt w' F' o L T R ∧ Dstep w F o w' F'
/-- The device's own block has changed. -/
theorem DevSt.re {w w' : World} {F : Own} {o T T' : Nat} {L : Lay} {R R' : Dv} (h : DevSt w F o L T R) (ho : Only (fun k => k = L.g) w w') (hd : Has w' L.g (devCells L R') 147) (hl : R'.lines = R.lines) (hn : R'.notes = R.notes) (he : R'.errs = R.errs) (hk : R'.Ok T') (hT : T ≤ T') :
    DevSt w' F o L T' R' := by
  have hx := Ext.refl w F
  have ne : ∀ {b : Nat} {r : Nat × Nat}, F b = some (o, r) → r ≠ (0, 0) → ¬ b = L.g := fun hb hr => Own.ne hb h.fg (fun e => hr (by cases e; rfl))
  have e1 : R'.perW = R.perW := by unfold Dv.perW; rw [hl]
  have e2 : R'.curW = R.curW := by unfold Dv.curW; rw [hl]
  have e3 : ∀ t, thrCells L R' t = thrCells L R t := fun t => by unfold thrCells; rw [he]
  have e4 : ∀ i, R'.line i = R.line i := fun i => by unfold Dv.line; rw [hl]
  refine ⟨hk, hd, h.fg, ?_, h.fp, ?_, h.fc, ?_, h.fl, fun t ht => ?_, fun t ht => ?_⟩
  · rw [hl, e1]; exact ownsRow_only h.per ho (by rintro k hk s; cases hk; exact ne h.fp (by simp) s)
  · rw [hl, e2]; exact ownsRow_only h.cur ho (by rintro k hk s; cases hk; exact ne h.fc (by simp) s)
  · have := h.lin.kept h.fl ho hx (fun k s => ⟨fun e => ne e (by simp) s, fun i e => ne e (by simp) s⟩)
    unfold LinSt at *
    simp only [hl, e4]; exact this
  · rw [e3]; exact ⟨(h.thr t ht).1.only ho (fun s => ne (h.thr t ht).2 (by simp) s), (h.thr t ht).2⟩
  · rw [hl, hn]; exact ⟨((h.nov t ht).1.only ho (fun s => ne (h.nov t ht).2 (by simp) s)).up hT, (h.nov t ht).2⟩
/-- A thread's error has been set. -/
theorem DevSt.err {w w' : World} {F : Own} {o T : Nat} {L : Lay} {R : Dv} (h : DevSt w F o L T R) {t e : Nat} (ht : t < 8) (he : e = 2 ∨ e = 3) (ho : Only (fun k => k = L.tb t) w w') (hd : Has w' (L.tb t) ((thrCells L R t).set 2 (.int .i64 (e : Int))) 174) :
    DevSt w' F o L T { R with errs := R.errs.set t e } := by
  have hx := Ext.refl w F
  have ht5 := (h.thr t ht).2
  have ne : ∀ {b : Nat} {r : Nat × Nat}, F b = some (o, r) → r ≠ (5, t) → ¬ b = L.tb t := fun hb hr => Own.ne hb ht5 (fun e => hr (by cases e; rfl))
  refine ⟨?_, ?_, h.fg, ?_, h.fp, ?_, h.fc, ?_, h.fl, fun t' ht' => ?_, fun t' ht' => ?_⟩
  · exact ⟨h.ok.t, h.ok.n1, h.ok.n2, h.ok.ln, h.ok.nl, h.ok.nd, h.ok.no, by simpa using h.ok.el, fun x hx => by
      rcases List.mem_or_eq_of_mem_set hx with h1 | rfl
      · exact h.ok.ev x h1
      · exact .inr he, h.ok.l1, h.ok.l2, h.ok.x⟩
  · exact h.dev.only ho (fun s => ne h.fg (by simp) s)
  · exact ownsRow_only h.per ho (by rintro k hk s; cases hk; exact ne h.fp (by simp) s)
  · exact ownsRow_only h.cur ho (by rintro k hk s; cases hk; exact ne h.fc (by simp) s)
  · exact h.lin.kept h.fl ho hx (fun k s => ⟨fun e => ne e (by simp) s, fun i e => ne e (by simp) s⟩)
  · by_cases e5 : t' = t
    · subst e5
      refine ⟨?_, ht5⟩
      have e6 : thrCells L { R with errs := R.errs.set t' e } t' = (thrCells L R t').set 2 (.int .i64 (e : Int)) := by
        unfold thrCells
        simp only [getD_set R.errs t' t' e 0 (by rw [h.ok.el]; exact ht'), if_true]
        rfl
      rw [e6]; exact hd
    · have e6 : thrCells L { R with errs := R.errs.set t e } t' = thrCells L R t' := by
        unfold thrCells
        simp only [getD_set R.errs t t' e 0 (by rw [h.ok.el]; exact ht), if_neg e5]
      rw [e6]; exact ⟨(h.thr t' ht').1.only ho (fun s => ne (h.thr t' ht').2 (by simp [e5]) s), (h.thr t' ht').2⟩
  · exact ⟨(h.nov t' ht').1.only ho (fun s => ne (h.nov t' ht').2 (by simp) s), (h.nov t' ht').2⟩

theorem _root_.Go.Proofs.Ytjmdibgncaljaaa.Only.setAt (w : World) (b o : Nat) (v : Value) : Only (fun k => k = b) w (w.setCell ⟨b, o, none⟩ v) := Only.setCell (S := fun k => k = b) (Only.refl _ w) (a := ⟨b, o, none⟩) (fun _ => rfl) v
theorem ret_post {post : Ending → World → Prop} {e e' : Ending} {w : World} (h : post e w) (he : e = e') : post e' w := he ▸ h
theorem end_post {post : Ending → World → Prop} {v v' : Value} {w : World} (h : post (.returned v) w) (he : v = v') : post (.returned v') w := he ▸ h

set_option maxHeartbeats 1000000 in
theorem fail_any (w : World) (F : Own) (o T t e : Nat) (L : Lay) (R : Dv) (h : DevSt w F o L T R) (ht : t < 8) (he : e = 2 ∨ e = 3) :
    Calls Try.prog 106 #[.pointer (some ⟨L.tb t, 0, none⟩), .int .i64 (e : Int)] w (DPost w F o L T (failP R t e) (.tuple #[])) := by
  generalize hpost : DPost w F o L T (failP R t e) (.tuple #[]) = post
  have hth := (h.thr t ht).1
  have c2 := hth.cell (o := 2) rfl
  have f2 := hth.free 2
  by_cases h0 : R.errs.getD t 0 = 0
  · have hfin : post (.returned (.tuple #[])) (w.setCell ⟨L.tb t, 2, none⟩ (.int .i64 (e : Int))) := by
      rw [← hpost]
      refine ⟨F, rfl, ?_, (Dstep.refl w F o).set (h.thr t ht).2 _⟩
      unfold failP; rw [if_pos h0]
      exact h.err ht he (Only.setAt w _ 2 _) (hth.set 2 _)
    rw [h0] at c2
    replace hfin := Lib.hid hfin
    clear hpost h hth h0
    go_enter Try.func106, Try.ntmps106
    go_wp2_with fail
    exact bodyPost_end (results_none rfl _ _ _) rfl hfin.out
  · have hfin : post (.returned (.tuple #[])) w := by
      rw [← hpost]
      refine ⟨F, rfl, ?_, Dstep.refl w F o⟩
      unfold failP; rw [if_neg h0]; exact h
    have hz : (((R.errs.getD t 0 : Nat) : Int) == 0) = false := by rw [beq_eq_false_iff_ne]; omega
    generalize R.errs.getD t 0 = ev at *
    replace hfin := Lib.hid hfin
    clear hpost h hth h0
    go_enter Try.func106, Try.ntmps106
    go_wp2_with fail
    exact bodyPost_end (results_none rfl _ _ _) rfl hfin.out

set_option maxHeartbeats 1000000 in
theorem on_any (w : World) (F : Own) (o T t : Nat) (b : Bool) (L : Lay) (R : Dv) (h : DevSt w F o L T R) (ht : t < 8) :
    Calls Try.prog 97 #[.pointer (some ⟨L.tb t, 0, none⟩), .bool b] w (DPost w F o L T (mayP R t b) (.bool (mayB R b))) := by
  generalize hpost : DPost w F o L T (mayP R t b) (.bool (mayB R b)) = post
  have hth := (h.thr t ht).1
  have c0 := hth.cell (o := 0) rfl
  have d4 := h.dev.cell (o := 11) rfl
  cases hoff : R.off with
  | true =>
    rw [hoff] at d4
    have e1 : mayP R t b = failP R t 3 := by simp [mayP, hoff]
    have e2 : mayB R b = false := by simp [mayB, hoff]
    rw [e1, e2] at hpost
    have hf := fail_any w F o T t 3 L R h ht (.inr rfl)
    replace hpost := Lib.hid hpost
    replace hf := Lib.hid hf
    clear e1 e2 hoff h hth
    go_enter Try.func97, Try.ntmps97
    go_wp2_with fail
    refine hf.out.mono ?_
    rintro e w1 ⟨F1, rfl, h1, s1⟩
    go_wp2_with fail
    rw [← hpost.out]
    exact ⟨F1, rfl, h1, s1⟩
  | false =>
    rw [hoff] at d4
    cases b with
    | false =>
      have e1 : mayP R t false = failP R t 2 := by simp [mayP, hoff]
      have e2 : mayB R false = false := by simp [mayB]
      rw [e1, e2] at hpost
      have hf := fail_any w F o T t 2 L R h ht (.inl rfl)
      replace hpost := Lib.hid hpost
      replace hf := Lib.hid hf
      clear e1 e2 hoff h hth
      go_enter Try.func97, Try.ntmps97
      go_wp2_with fail
      refine hf.out.mono ?_
      rintro e w1 ⟨F1, rfl, h1, s1⟩
      go_wp2_with fail
      rw [← hpost.out]
      exact ⟨F1, rfl, h1, s1⟩
    | true =>
      have e1 : mayP R t true = R := by simp [mayP, hoff]
      have e2 : mayB R true = true := by simp [mayB, hoff]
      rw [e1, e2] at hpost
      replace hpost := Lib.hid hpost
      replace h := Lib.hid h
      clear e1 e2 hoff hth
      go_enter Try.func97, Try.ntmps97
      go_wp2_with fail
      rw [← hpost.out]
      exact ⟨F, rfl, h.out, Dstep.refl _ _ _⟩
end Go.Proofs.Ytjmdibgncaljaaa.Dev
