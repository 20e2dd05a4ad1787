/- One event of a run, as data. -/
import Derived.Test.YtpgjpoilcdkjgaaO9
namespace Go.Proofs.Ytpgjpoilcdkjgaa
open Go.RowKit Go.Maps

/-- An event: kind, thread, offset, value, old, line, n, choice. -/
structure Ev where
  k : Nat
  t : Nat
  off : Nat
  val : Nat
  old : Nat
  line : Nat
  n : Int
  ch : Value
def Ev.cells (e : Ev) : List Value := [.int .u8 (e.k : Int), .int .i64 (e.t : Int), .int .u64 (e.off : Int), .int .u64 (e.val : Int), .int .u64 (e.old : Int), .int .i64 (e.line : Int), .int .i64 e.n, e.ch]
/-- What a valid event of the kinds that New lets by is known to be. -/
structure Ev.Fit (e : Ev) : Prop where
  k : 1 ≤ e.k ∧ e.k ≤ 5
  t : e.t < 8
  off : e.off < 18446744073709551616
  val : e.val < 18446744073709551616
  old : e.old < 18446744073709551616
  line : e.line < 4096
  n : e.k = 5 → 0 ≤ e.n
  nb : -1 ≤ e.n ∧ e.n ≤ 2147483647

def noteP (R : Rn) (t l c : Nat) : Rn := { R with note := fun t' l' => if t' = t ∧ l' = l then some c else R.note t' l' }
def fenceL (R : Rn) (t : Nat) : List Nat := (List.range R.G.n).map fun l => match R.note t l with | none => R.G.md.getD l 0 | some c => max (R.G.md.getD l 0) c
def fenceP (R : Rn) (t : Nat) : Rn := { R with G := { R.G with md := fenceL R t }, note := fun t' l' => if t' = t then none else R.note t' l' }
def backP (R : Rn) (l n : Nat) : Rn := { R with G := { R.G with md := R.G.md.set l (R.G.md.getD l 0 + n) } }
def execP (R : Rn) (e : Ev) : Rn :=
  if e.k = 1 then if e.off < 64 * R.G.n ∧ e.off % 8 = 0 then storeP R e.off e.val else R
  else if e.k = 2 then if (e.off < 64 * R.G.n ∧ e.off % 8 = 0) ∧ R.cur e.off = e.old then storeP R e.off e.val else R
  else if e.k = 3 then if e.off < 64 * R.G.n then noteP R e.t (e.off / 64) (R.G.ct.getD (e.off / 64) 0) else R
  else if e.k = 4 then fenceP R e.t
  else if e.k = 5 then if e.line < R.G.n ∧ e.n ≤ (R.G.ct.getD e.line 0 : Int) - (R.G.md.getD e.line 0 : Int) then backP R e.line e.n.toNat else R
  else R

theorem Rn.Ok.up {R : Rn} {T : Nat} (h : R.Ok T) (hT : T + 1 ≤ 20000) : R.Ok (T + 1) :=
  ⟨hT, h.n1, h.n2, Nat.le_succ_of_le h.wl, h.rl, h.cl, h.ml, h.off, h.al, fun r hr => Nat.le_succ_of_le (h.rb r hr), fun r hr => Nat.le_succ_of_le (h.cb r hr), h.mc, h.cu, h.no⟩
theorem fenceL_get (R : Rn) (t l : Nat) (hl : l < R.G.n) : (fenceL R t).getD l 0 = match R.note t l with | none => R.G.md.getD l 0 | some c => max (R.G.md.getD l 0) c := by
  unfold fenceL
  rw [List.getD, List.getElem?_map, List.getElem?_range hl]; rfl
theorem noteP_ok {R : Rn} {T t l c : Nat} (h : R.Ok T) (hl : l < R.G.n) (hc : c ≤ R.G.ct.getD l 0) : (noteP R t l c).Ok T := by
  refine ⟨h.t, h.n1, h.n2, h.wl, h.rl, h.cl, h.ml, h.off, h.al, h.rb, h.cb, h.mc, h.cu, ?_⟩
  intro t' l' c' hh
  simp only [noteP] at hh
  split at hh
  · rename_i he; cases hh; obtain ⟨rfl, rfl⟩ := he; exact ⟨hl, hc⟩
  · exact h.no _ _ _ hh
theorem fenceP_ok {R : Rn} {T t : Nat} (h : R.Ok T) : (fenceP R t).Ok T := by
  refine ⟨h.t, h.n1, h.n2, h.wl, h.rl, h.cl, ?_, h.off, h.al, h.rb, h.cb, ?_, h.cu, ?_⟩
  · simp [fenceP, fenceL]
  · intro k
    show (fenceL R t).getD k 0 ≤ R.G.ct.getD k 0
    by_cases hk : k < R.G.n
    · rw [fenceL_get R t k hk]
      have h1 := h.mc k
      cases hn : R.note t k with
      | none => exact h1
      | some c => have := (h.no _ _ _ hn).2; simp only; omega
    · have : (fenceL R t).getD k 0 = 0 := by rw [List.getD, List.getElem?_eq_none (by simp [fenceL]; omega)]; rfl
      omega
  · intro t' l' c' hh
    simp only [fenceP] at hh
    split at hh
    · cases hh
    · exact h.no _ _ _ hh
theorem backP_ok {R : Rn} {T l n : Nat} (h : R.Ok T) (hl : l < R.G.n) (hn : R.G.md.getD l 0 + n ≤ R.G.ct.getD l 0) : (backP R l n).Ok T := by
  refine ⟨h.t, h.n1, h.n2, h.wl, h.rl, h.cl, ?_, h.off, h.al, h.rb, h.cb, ?_, h.cu, h.no⟩
  · simpa [backP] using h.ml
  · intro k
    show (R.G.md.set l (R.G.md.getD l 0 + n)).getD k 0 ≤ R.G.ct.getD k 0
    by_cases hk : k = l
    · subst hk; rw [List.getD, List.getElem?_set_self (by rw [h.ml]; exact hl)]; exact hn
    · rw [List.getD, List.getElem?_set_ne (Ne.symm hk)]; exact h.mc k
theorem execP_ok {R : Rn} {T : Nat} {e : Ev} (h : R.Ok T) (hT : T + 1 ≤ 20000) (he : e.Fit) : (execP R e).Ok (T + 1) := by
  unfold execP
  split
  · split
    · rename_i hh; exact storeP_ok h hT hh.1 hh.2 he.val
    · exact h.up hT
  split
  · split
    · rename_i hh; exact storeP_ok h hT hh.1.1 hh.1.2 he.val
    · exact h.up hT
  split
  · split
    · exact (noteP_ok h (by omega) (Nat.le_refl _)).up hT
    · exact h.up hT
  split
  · exact (fenceP_ok h).up hT
  split
  · rename_i hk
    split
    · rename_i hh; have := he.n hk; exact (backP_ok h hh.1 (by omega)).up hT
    · exact h.up hT
  · exact h.up hT
end Go.Proofs.Ytpgjpoilcdkjgaa
