/- The device as data, and its instructions as plain functions. No program in sight. -/
import Derived.Test.YtikjpklbbjmioaaHeap
namespace Go.Proofs.Ytikjpklbbjmioaa

structure Ln where
  base : List Nat
  hist : List (Nat × Nat)
  done : Nat
structure Dv where
  lines : List Ln
  notes : List (List (Nat × Nat))
  errs : List Nat
  left : Int
  off : Bool
  exe : Nat
def ln0 : Ln := ⟨[], [], 0⟩
def setW (ws : List Nat) (p : Nat × Nat) : List Nat := ws.set (p.1 % 64 / 8) p.2
def setA (ws : List Nat) (p : Nat × Nat) : List Nat := ws.set (p.1 / 8) p.2
def wordsL (l : Ln) (k : Nat) : List Nat := (l.hist.take k).foldl setW l.base
def allL (l : Ln) : List Nat := wordsL l l.hist.length
def persistL (l : Ln) (k : Nat) : Ln := ⟨wordsL l k, l.hist.drop k, l.done + k⟩
def putL (l : Ln) (p : Nat × Nat) : Ln := ⟨l.base, l.hist ++ [p], l.done⟩
def Dv.curW (R : Dv) : List Nat := R.lines.flatMap allL
def Dv.perW (R : Dv) : List Nat := R.lines.flatMap Ln.base
def Dv.line (R : Dv) (i : Nat) : Ln := R.lines.getD i ln0

theorem getD_of {α : Type} {xs : List α} {i : Nat} {x : α} (d : α) (h : xs[i]? = some x) : xs.getD i d = x := by rw [List.getD, h]; rfl
theorem get_of_lt {α : Type} {xs : List α} {i : Nat} (d : α) (h : i < xs.length) : xs[i]? = some (xs.getD i d) := by
  rw [List.getD, List.getElem?_eq_getElem h]; rfl
theorem mem_getD {α : Type} {xs : List α} {i : Nat} (d : α) (h : i < xs.length) : xs.getD i d ∈ xs := List.mem_of_getElem? (get_of_lt d h)
theorem getD_set {α : Type} (xs : List α) (i j : Nat) (x d : α) (h : i < xs.length) : (xs.set i x).getD j d = if j = i then x else xs.getD j d := by
  by_cases hj : j = i
  · subst hj; rw [if_pos rfl, List.getD, List.getElem?_set_self h]; rfl
  · rw [if_neg hj, List.getD, List.getElem?_set_ne (Ne.symm hj)]; rfl
theorem set_getD_self {α : Type} (xs : List α) (i : Nat) (d : α) : xs.set i (xs.getD i d) = xs := by
  apply List.ext_getElem?
  intro j
  by_cases hj : i = j
  · subst hj
    by_cases h : i < xs.length
    · rw [List.getElem?_set_self h, get_of_lt d h]
    · rw [List.getElem?_eq_none (by simp; omega), List.getElem?_eq_none (by omega)]
  · rw [List.getElem?_set_ne hj]

/-! ### lists of eights -/
theorem flat_len {α : Type} (f : α → List Nat) : ∀ (ls : List α), (∀ l ∈ ls, (f l).length = 8) → (ls.flatMap f).length = 8 * ls.length
  | [], _ => rfl
  | l :: ls, h => by
    have := flat_len f ls (fun x hx => h x (List.mem_cons_of_mem _ hx))
    have h8 := h l (List.mem_cons_self ..)
    simp only [List.flatMap_cons, List.length_append, List.length_cons, this, h8]; omega
theorem flat_get {α : Type} (f : α → List Nat) : ∀ (ls : List α), (∀ l ∈ ls, (f l).length = 8) → ∀ (i j : Nat) (l : α), ls[i]? = some l → j < 8 → (ls.flatMap f)[8 * i + j]? = (f l)[j]?
  | [], _, i, j, l, h, _ => by simp at h
  | x :: ls, hh, 0, j, l, h, hj => by
    simp at h; subst h
    have h8 := hh x (List.mem_cons_self ..)
    simp only [List.flatMap_cons, Nat.mul_zero, Nat.zero_add]
    rw [List.getElem?_append_left (by omega)]
  | x :: ls, hh, i + 1, j, l, h, hj => by
    have h8 := hh x (List.mem_cons_self ..)
    have := flat_get f ls (fun x hx => hh x (List.mem_cons_of_mem _ hx)) i j l (by simpa using h) hj
    simp only [List.flatMap_cons]
    rw [List.getElem?_append_right (by omega), ← this]
    congr 1; omega
theorem flat_set {α : Type} (f : α → List Nat) : ∀ (ls : List α), (∀ l ∈ ls, (f l).length = 8) → ∀ (i j : Nat) (l l' : α) (v : Nat), ls[i]? = some l → j < 8 → f l' = (f l).set j v →
    (ls.set i l').flatMap f = (ls.flatMap f).set (8 * i + j) v
  | [], _, i, j, l, l', v, h, _, _ => by simp at h
  | x :: ls, hh, 0, j, l, l', v, h, hj, e => by
    simp at h; subst h
    have h8 := hh x (List.mem_cons_self ..)
    simp only [List.set_cons_zero, List.flatMap_cons, Nat.mul_zero, Nat.zero_add]
    rw [List.set_append_left _ _ (by omega), e]
  | x :: ls, hh, i + 1, j, l, l', v, h, hj, e => by
    have h8 := hh x (List.mem_cons_self ..)
    have := flat_set f ls (fun x hx => hh x (List.mem_cons_of_mem _ hx)) i j l l' v (by simpa using h) hj e
    simp only [List.set_cons_succ, List.flatMap_cons]
    rw [List.set_append_right _ _ (by omega), this]
    congr 2; omega
theorem flat_same {α : Type} (f : α → List Nat) (ls : List α) (i : Nat) (l l' : α) (h : ls[i]? = some l) (e : f l' = f l) : (ls.set i l').flatMap f = ls.flatMap f := by
  have : (ls.set i l').map f = ls.map f := by
    rw [List.map_set, e]
    apply List.ext_getElem?
    intro j
    by_cases hj : i = j
    · subst hj
      have hi : i < ls.length := by
        rcases Nat.lt_or_ge i ls.length with h1 | h1
        · exact h1
        · rw [List.getElem?_eq_none h1] at h; cases h
      rw [List.getElem?_set_self (by simpa using hi), List.getElem?_map, h]; rfl
    · rw [List.getElem?_set_ne hj]
  rw [List.flatMap_def, List.flatMap_def, this]

/-! ### words of a line -/
theorem setW_len (ws : List Nat) (p : Nat × Nat) : (setW ws p).length = ws.length := by simp [setW]
theorem fold_setW_len (ps : List (Nat × Nat)) (ws : List Nat) : (ps.foldl setW ws).length = ws.length := by
  induction ps generalizing ws with
  | nil => rfl
  | cons p ps ih => rw [List.foldl_cons, ih, setW_len]
theorem wordsL_len (l : Ln) (k : Nat) : (wordsL l k).length = l.base.length := fold_setW_len _ _
theorem wordsL_zero (l : Ln) : wordsL l 0 = l.base := rfl
theorem wordsL_succ (l : Ln) (k : Nat) (d : Nat × Nat) (h : k < l.hist.length) : wordsL l (k + 1) = setW (wordsL l k) (l.hist.getD k d) := by
  unfold wordsL; rw [take_getD l.hist k d h, List.foldl_append]; rfl
theorem allL_put (l : Ln) (p : Nat × Nat) : allL (putL l p) = setW (allL l) p := by
  unfold allL wordsL putL
  simp only [List.take_length]
  rw [List.foldl_append]; rfl
theorem allL_persist (l : Ln) (k : Nat) (h : k ≤ l.hist.length) : allL (persistL l k) = allL l := by
  have _h := h
  unfold allL wordsL persistL
  simp only [List.take_length]
  unfold wordsL
  rw [← List.foldl_append, List.take_append_drop]
theorem persistL_zero (l : Ln) : persistL l 0 = l := by
  unfold persistL wordsL
  cases l; simp

/-! ### the instructions -/
def Dv.setLine (R : Dv) (i : Nat) (l : Ln) : Dv := { R with lines := R.lines.set i l }
def failP (R : Dv) (t e : Nat) : Dv := if R.errs.getD t 0 = 0 then { R with errs := R.errs.set t e } else R
def mayP (R : Dv) (t : Nat) (valid : Bool) : Dv := if R.off then failP R t 3 else if valid then R else failP R t 2
def mayB (R : Dv) (valid : Bool) : Bool := !R.off && valid
def countB (R : Dv) (valid : Bool) : Bool := !R.off && valid && decide (R.left ≠ 0)
def countP (R : Dv) (t : Nat) (valid : Bool) : Dv :=
  if R.off then failP R t 3 else if valid then (if R.left = 0 then failP { R with off := true } t 3 else { R with left := (if 0 < R.left then R.left - 1 else R.left), exe := R.exe + 1 }) else failP R t 2
def Dv.isB (R : Dv) (off : Nat) : Bool := decide (off % 8 = 0 ∧ off < 64 * R.lines.length)
def valueP (R : Dv) (off : Nat) : Nat := (allL (R.line (off / 64))).getD (off % 64 / 8) 0
def loadV (R : Dv) (off : Nat) : Nat := if mayB R (R.isB off) then valueP R off else 0
def putP (R : Dv) (off v : Nat) : Dv := R.setLine (off / 64) (putL (R.line (off / 64)) (off, v))
def storeP (R : Dv) (t off v : Nat) : Dv := if countB R (R.isB off) then putP (countP R t (R.isB off)) off v else countP R t (R.isB off)
def casB (R : Dv) (off old : Nat) : Bool := countB R (R.isB off) && decide (valueP R off = old)
def casP (R : Dv) (t off old v : Nat) : Dv := if casB R off old then putP (countP R t (R.isB off)) off v else countP R t (R.isB off)
def noteL (ns : List (Nat × Nat)) (l c : Nat) : List (Nat × Nat) := ns.filter (fun x => decide (x.1 ≠ l)) ++ [(l, c)]
def notedP (R : Dv) (t l : Nat) : Dv := { R with notes := R.notes.set t (noteL (R.notes.getD t []) l ((R.line l).done + (R.line l).hist.length)) }
def Dv.inB (R : Dv) (off : Nat) : Bool := decide (off < 64 * R.lines.length)
def flushP (R : Dv) (t off : Nat) : Dv := if countB R (R.inB off) then notedP (countP R t (R.inB off)) t (off / 64) else countP R t (R.inB off)
def fenceS (ls : List Ln) (x : Nat × Nat) : List Ln := if (ls.getD x.1 ln0).done < x.2 then ls.set x.1 (persistL (ls.getD x.1 ln0) (x.2 - (ls.getD x.1 ln0).done)) else ls
def fencedP (R : Dv) (t : Nat) : Dv := { R with lines := (R.notes.getD t []).foldl fenceS R.lines, notes := R.notes.set t [] }
def fenceP (R : Dv) (t : Nat) : Dv := if countB R true then fencedP (countP R t true) t else countP R t true
def backB (R : Dv) (l k : Int) : Bool := !R.off && decide (0 ≤ l ∧ l < R.lines.length ∧ 0 ≤ k ∧ k ≤ (R.line l.toNat).hist.length)
def backP (R : Dv) (l k : Int) : Dv := if backB R l k then R.setLine l.toNat (persistL (R.line l.toNat) k.toNat) else R
def armP (R : Dv) (n : Int) : Dv := if R.off then R else { R with left := max n (-1) }
def newP (n : Nat) : Dv := ⟨List.replicate n ⟨List.replicate 8 0, [], 0⟩, List.replicate 8 [], List.replicate 8 0, -1, false, 0⟩

/-! ### what holds of every device -/
structure LnOk (i T : Nat) (l : Ln) : Prop where
  b : l.base.length = 8
  bv : ∀ x ∈ l.base, x < 18446744073709551616
  h : ∀ p ∈ l.hist, p.1 / 64 = i ∧ p.1 % 8 = 0 ∧ p.2 < 18446744073709551616
  hl : l.hist.length + l.done ≤ T
structure Dv.Ok (R : Dv) (T : Nat) : Prop where
  t : T ≤ 100000
  n1 : 1 ≤ R.lines.length
  n2 : R.lines.length ≤ 4096
  ln : ∀ i, i < R.lines.length → LnOk i T (R.line i)
  nl : R.notes.length = 8
  nd : ∀ t, t < 8 → ((R.notes.getD t []).map Prod.fst).Nodup
  no : ∀ t, t < 8 → ∀ x ∈ R.notes.getD t [], x.1 < R.lines.length ∧ x.2 ≤ (R.line x.1).done + (R.line x.1).hist.length
  el : R.errs.length = 8
  ev : ∀ e ∈ R.errs, e = 0 ∨ e = 2 ∨ e = 3
  l1 : -1 ≤ R.left
  l2 : R.left ≤ 9223372036854775807
  x : R.exe ≤ T

theorem LnOk.up {i T T' : Nat} {l : Ln} (h : LnOk i T l) (ht : T ≤ T') : LnOk i T' l := ⟨h.b, h.bv, h.h, Nat.le_trans h.hl ht⟩
theorem Dv.Ok.up {R : Dv} {T T' : Nat} (h : R.Ok T) (ht : T ≤ T') (h2 : T' ≤ 100000) : R.Ok T' :=
  ⟨h2, h.n1, h.n2, fun i hi => (h.ln i hi).up ht, h.nl, h.nd, h.no, h.el, h.ev, h.l1, h.l2, Nat.le_trans h.x ht⟩
theorem Dv.Ok.at {R : Dv} {T : Nat} (h : R.Ok T) {l : Ln} (hl : l ∈ R.lines) : ∃ i, i < R.lines.length ∧ LnOk i T l := by
  obtain ⟨i, hi, rfl⟩ := List.getElem_of_mem hl
  refine ⟨i, hi, ?_⟩
  have := h.ln i hi
  unfold Dv.line at this
  rwa [getD_of ln0 (List.getElem?_eq_getElem hi)] at this
theorem Dv.Ok.b8 {R : Dv} {T : Nat} (h : R.Ok T) : ∀ l ∈ R.lines, (Ln.base l).length = 8 := fun l hl => by
  obtain ⟨i, _, h1⟩ := h.at hl; exact h1.b
theorem Dv.Ok.a8 {R : Dv} {T : Nat} (h : R.Ok T) : ∀ l ∈ R.lines, (allL l).length = 8 := fun l hl => by
  unfold allL; rw [wordsL_len]; exact h.b8 l hl
theorem Dv.Ok.perLen {R : Dv} {T : Nat} (h : R.Ok T) : R.perW.length = 8 * R.lines.length := flat_len _ _ h.b8
theorem Dv.Ok.curLen {R : Dv} {T : Nat} (h : R.Ok T) : R.curW.length = 8 * R.lines.length := flat_len _ _ h.a8
theorem Dv.line_get {R : Dv} {i : Nat} (h : i < R.lines.length) : R.lines[i]? = some (R.line i) := get_of_lt ln0 h
theorem fold_setW_lt (ps : List (Nat × Nat)) (B : Nat) : ∀ ws : List Nat, (∀ x ∈ ws, x < B) → (∀ p ∈ ps, p.2 < B) → ∀ x ∈ ps.foldl setW ws, x < B := by
  induction ps with
  | nil => exact fun ws h _ => h
  | cons p ps ih =>
    intro ws h hp
    refine ih _ (fun x hx => ?_) (fun q hq => hp q (List.mem_cons_of_mem _ hq))
    rcases List.mem_or_eq_of_mem_set hx with h1 | rfl
    · exact h x h1
    · exact hp p (List.mem_cons_self ..)
theorem LnOk.words {i T : Nat} {l : Ln} (h : LnOk i T l) (k : Nat) : ∀ x ∈ wordsL l k, x < 18446744073709551616 :=
  fold_setW_lt _ _ _ h.bv (fun p hp => (h.h p (List.mem_of_mem_take hp)).2.2)
theorem LnOk.put {i T : Nat} {l : Ln} (h : LnOk i T l) {off v : Nat} (h1 : off / 64 = i) (h2 : off % 8 = 0) (h3 : v < 18446744073709551616) : LnOk i (T + 1) (putL l (off, v)) := by
  refine ⟨h.b, h.bv, ?_, by have := h.hl; simp [putL]; omega⟩
  intro p hp
  simp only [putL, List.mem_append, List.mem_singleton] at hp
  rcases hp with hp | rfl
  · exact h.h p hp
  · exact ⟨h1, h2, h3⟩
theorem LnOk.persist {i T : Nat} {l : Ln} (h : LnOk i T l) {k : Nat} (hk : k ≤ l.hist.length) : LnOk i T (persistL l k) := by
  refine ⟨by show (wordsL l k).length = 8; rw [wordsL_len]; exact h.b, h.words k, fun p hp => h.h p (List.mem_of_mem_drop hp), ?_⟩
  have := h.hl
  simp only [persistL, List.length_drop]; omega
theorem setLine_line {R : Dv} {i : Nat} (l : Ln) (h : i < R.lines.length) (j : Nat) : (R.setLine i l).line j = if j = i then l else R.line j := getD_set _ _ _ _ _ h
theorem setLine_len (R : Dv) (i : Nat) (l : Ln) : (R.setLine i l).lines.length = R.lines.length := by simp [Dv.setLine]
theorem setLine_ok {R : Dv} {T T' : Nat} (h : R.Ok T) (ht : T ≤ T') (h2 : T' ≤ 100000) {i : Nat} (hi : i < R.lines.length) {l : Ln} (hl : LnOk i T' l) (hd : (R.line i).done + (R.line i).hist.length ≤ l.done + l.hist.length) : (R.setLine i l).Ok T' := by
  refine ⟨h2, by rw [setLine_len]; exact h.n1, by rw [setLine_len]; exact h.n2, ?_, h.nl, h.nd, ?_, h.el, h.ev, h.l1, h.l2, Nat.le_trans h.x ht⟩
  · intro j hj
    rw [setLine_len] at hj
    rw [setLine_line l hi]
    split
    · subst_vars; exact hl
    · exact (h.ln j hj).up ht
  · intro t ht x hx
    obtain ⟨h1, h2⟩ := h.no t ht x hx
    rw [setLine_len, setLine_line l hi]
    refine ⟨h1, ?_⟩
    split
    · rename_i e; rw [e] at h2; omega
    · exact h2
theorem putP_ok {R : Dv} {T : Nat} (h : R.Ok T) (hT : T + 1 ≤ 100000) {off v : Nat} (ho : off < 64 * R.lines.length) (ha : off % 8 = 0) (hv : v < 18446744073709551616) : (putP R off v).Ok (T + 1) := by
  have hl : off / 64 < R.lines.length := by omega
  exact setLine_ok h (by omega) hT hl ((h.ln _ hl).put rfl ha hv) (by simp [putL])
theorem persist_ok {R : Dv} {T : Nat} (h : R.Ok T) {i k : Nat} (hi : i < R.lines.length) (hk : k ≤ (R.line i).hist.length) : (R.setLine i (persistL (R.line i) k)).Ok T :=
  setLine_ok h (Nat.le_refl _) h.t hi ((h.ln i hi).persist hk) (by simp only [persistL, List.length_drop]; omega)
theorem backP_ok {R : Dv} {T : Nat} (h : R.Ok T) (l k : Int) : (backP R l k).Ok T := by
  unfold backP
  split
  · rename_i hb
    simp only [backB, Bool.and_eq_true, decide_eq_true_eq] at hb
    obtain ⟨_, h1, h2, h3, h4⟩ := hb
    exact persist_ok h (by omega) (by omega)
  · exact h
theorem failP_ok {R : Dv} {T : Nat} (h : R.Ok T) (t : Nat) {e : Nat} (he : e = 2 ∨ e = 3) : (failP R t e).Ok T := by
  unfold failP
  split
  · exact ⟨h.t, h.n1, h.n2, h.ln, h.nl, h.nd, h.no, by simpa using h.el, fun x hx => by
      rcases List.mem_or_eq_of_mem_set hx with h1 | rfl
      · exact h.ev x h1
      · exact .inr he, h.l1, h.l2, h.x⟩
  · exact h
theorem off_ok {R : Dv} {T : Nat} (h : R.Ok T) : ({ R with off := true } : Dv).Ok T := ⟨h.t, h.n1, h.n2, h.ln, h.nl, h.nd, h.no, h.el, h.ev, h.l1, h.l2, h.x⟩
theorem mayP_ok {R : Dv} {T : Nat} (h : R.Ok T) (t : Nat) (b : Bool) : (mayP R t b).Ok T := by
  unfold mayP
  split
  · exact failP_ok h t (.inr rfl)
  split
  · exact h
  · exact failP_ok h t (.inl rfl)
theorem step_ok {R : Dv} {T : Nat} (h : R.Ok T) (hT : T + 1 ≤ 100000) : ({ R with left := (if 0 < R.left then R.left - 1 else R.left), exe := R.exe + 1 } : Dv).Ok (T + 1) :=
  ⟨hT, h.n1, h.n2, fun i hi => (h.ln i hi).up (by omega), h.nl, h.nd, h.no, h.el, h.ev, by have := h.l1; show -1 ≤ ite _ _ _; split <;> omega, by have := h.l2; show ite _ _ _ ≤ _; split <;> omega, by have := h.x; show R.exe + 1 ≤ _; omega⟩
theorem countP_ok {R : Dv} {T : Nat} (h : R.Ok T) (hT : T + 1 ≤ 100000) (t : Nat) (b : Bool) : (countP R t b).Ok (T + 1) := by
  unfold countP
  split
  · exact (failP_ok h t (.inr rfl)).up (by omega) hT
  split
  · split
    · exact (failP_ok (off_ok h) t (.inr rfl)).up (by omega) hT
    · exact step_ok h hT
  · exact (failP_ok h t (.inl rfl)).up (by omega) hT
theorem failP_lines (R : Dv) (t e : Nat) : (failP R t e).lines = R.lines ∧ (failP R t e).notes = R.notes ∧ (failP R t e).left = R.left ∧ (failP R t e).off = R.off ∧ (failP R t e).exe = R.exe := by
  unfold failP; split <;> exact ⟨rfl, rfl, rfl, rfl, rfl⟩
theorem mayP_lines (R : Dv) (t : Nat) (b : Bool) : (mayP R t b).lines = R.lines := by
  unfold mayP
  split
  · exact (failP_lines _ _ _).1
  split
  · rfl
  · exact (failP_lines _ _ _).1
theorem countP_lines (R : Dv) (t : Nat) (b : Bool) : (countP R t b).lines = R.lines ∧ (countP R t b).notes = R.notes := by
  unfold countP
  split
  · exact ⟨(failP_lines _ _ _).1, (failP_lines _ _ _).2.1⟩
  split
  · split
    · exact ⟨(failP_lines _ _ _).1, (failP_lines _ _ _).2.1⟩
    · exact ⟨rfl, rfl⟩
  · exact ⟨(failP_lines _ _ _).1, (failP_lines _ _ _).2.1⟩
theorem countP_line (R : Dv) (t : Nat) (b : Bool) (i : Nat) : (countP R t b).line i = R.line i := by unfold Dv.line; rw [(countP_lines R t b).1]
theorem armP_ok {R : Dv} {T : Nat} (h : R.Ok T) {n : Int} (hn : n ≤ 9223372036854775807) : (armP R n).Ok T := by
  unfold armP
  split
  · exact h
  · exact ⟨h.t, h.n1, h.n2, h.ln, h.nl, h.nd, h.no, h.el, h.ev, by show -1 ≤ max n (-1); omega, by show max n (-1) ≤ _; omega, h.x⟩
theorem newP_line (n i : Nat) (h : i < n) : (newP n).line i = ⟨List.replicate 8 0, [], 0⟩ := by
  unfold Dv.line newP; exact getD_of _ (by rw [List.getElem?_replicate, if_pos h])
theorem rep_getD {α : Type} (n i : Nat) (x d : α) (h : i < n) : (List.replicate n x).getD i d = x := getD_of _ (by rw [List.getElem?_replicate, if_pos h])
theorem newP_ok (n : Nat) (h1 : 1 ≤ n) (h2 : n ≤ 4096) : (newP n).Ok 0 := by
  refine ⟨by omega, by simpa [newP] using h1, by simpa [newP] using h2, ?_, by simp [newP], ?_, ?_, by simp [newP], ?_, by simp [newP], by simp [newP], by simp [newP]⟩
  · intro i hi
    rw [newP_line n i (by simpa [newP] using hi)]
    exact ⟨by simp, fun x hx => by rw [List.eq_of_mem_replicate hx]; omega, by simp, by simp⟩
  · intro t ht; rw [show (newP n).notes.getD t [] = [] from rep_getD 8 t [] [] ht]; exact List.nodup_nil
  · intro t ht x hx; rw [show (newP n).notes.getD t [] = [] from rep_getD 8 t [] [] ht] at hx; cases hx
  · intro e he; exact .inl (List.eq_of_mem_replicate he)

/-! ### what becomes of the words -/
theorem putP_per {R : Dv} {off v : Nat} (ho : off < 64 * R.lines.length) : (putP R off v).perW = R.perW :=
  flat_same _ _ _ _ _ (R.line_get (show off / 64 < R.lines.length by omega)) rfl
theorem putP_cur {R : Dv} {T off v : Nat} (h : R.Ok T) (ho : off < 64 * R.lines.length) : (putP R off v).curW = R.curW.set (off / 8) v := by
  have := flat_set allL R.lines h.a8 (off / 64) (off % 64 / 8) _ (putL (R.line (off / 64)) (off, v)) v (R.line_get (show off / 64 < R.lines.length by omega)) (by omega) (by rw [allL_put]; rfl)
  have e : 8 * (off / 64) + off % 64 / 8 = off / 8 := by omega
  rw [e] at this
  exact this
theorem cur_at {R : Dv} {T off : Nat} (h : R.Ok T) (ho : off < 64 * R.lines.length) : R.curW[off / 8]? = some (valueP R off) := by
  have hi : off / 64 < R.lines.length := by omega
  have := flat_get allL R.lines h.a8 (off / 64) (off % 64 / 8) _ (R.line_get hi) (by omega)
  have e : 8 * (off / 64) + off % 64 / 8 = off / 8 := by omega
  rw [e] at this
  unfold Dv.curW
  rw [this]
  exact get_of_lt 0 (by rw [h.a8 _ (List.mem_of_getElem? (R.line_get hi))]; omega)
theorem value_lt {R : Dv} {T off : Nat} (h : R.Ok T) (ho : off < 64 * R.lines.length) : valueP R off < 18446744073709551616 := by
  have hi : off / 64 < R.lines.length := by omega
  exact (h.ln _ hi).words _ _ (mem_getD 0 (by rw [wordsL_len, (h.ln _ hi).b]; omega))
theorem persist_per (ls : List Ln) (h8 : ∀ l ∈ ls, (Ln.base l).length = 8) (i : Nat) (hi : i < ls.length) : ∀ (ps : List (Nat × Nat)), (∀ p ∈ ps, p.1 / 64 = i) → ∀ l : Ln, l.base.length = 8 →
    ∀ l' : Ln, l'.base = ps.foldl setW l.base → (ls.set i l').flatMap Ln.base = ps.foldl setA ((ls.set i l).flatMap Ln.base)
  | [], _, l, hl, l', e => by
    have := flat_same Ln.base (ls.set i l) i l l' (by rw [List.getElem?_set_self hi]) e
    rw [List.set_set] at this
    exact this
  | p :: ps, hp, l, hl, l', e => by
    rw [List.foldl_cons] at e ⊢
    have hl1 : (setW l.base p).length = 8 := by rw [setW_len]; exact hl
    have h1 := persist_per ls h8 i hi ps (fun q hq => hp q (List.mem_cons_of_mem _ hq)) ⟨setW l.base p, [], 0⟩ hl1 l' e
    rw [h1]
    congr 1
    have hpi := hp p (List.mem_cons_self ..)
    have h2 := flat_set Ln.base (ls.set i l) (fun x hx => by
      rcases List.mem_or_eq_of_mem_set hx with h3 | rfl
      · exact h8 x h3
      · exact hl) i (p.1 % 64 / 8) l ⟨setW l.base p, [], 0⟩ p.2 (by rw [List.getElem?_set_self hi]) (by omega) rfl
    rw [List.set_set] at h2
    rw [h2]
    unfold setA
    congr 1
    omega
theorem persistP_per {R : Dv} {T i k : Nat} (h : R.Ok T) (hi : i < R.lines.length) : (R.setLine i (persistL (R.line i) k)).perW = ((R.line i).hist.take k).foldl setA R.perW := by
  have := persist_per R.lines h.b8 i hi ((R.line i).hist.take k) (fun p hp => ((h.ln i hi).h p (List.mem_of_mem_take hp)).1) (R.line i) (h.ln i hi).b (persistL (R.line i) k) rfl
  unfold Dv.line at this
  rw [set_getD_self] at this
  exact this
theorem persistP_cur {R : Dv} {i k : Nat} (hi : i < R.lines.length) (hk : k ≤ (R.line i).hist.length) : (R.setLine i (persistL (R.line i) k)).curW = R.curW :=
  flat_same _ _ _ _ _ (R.line_get hi) (allL_persist _ _ hk)
end Go.Proofs.Ytikjpklbbjmioaa
