/- Programs: dLines. Programs: the walk of dLines. -/
import Derived.Test.YtjmdibgncaljaaaP14
import Derived.Test.YtjmdibgncaljaaaP12
namespace Go.Proofs.Ytjmdibgncaljaaa
open Go.RowKit
/-- What dLines keeps: each line's stores, how many are persistent, how many a flush has noted. -/
structure LSt where
  st : Nat → List (Nat × Nat)
  le : Nat → Nat
  no : Nat → Nat
def lst0 : LSt := ⟨fun _ => [], fun _ => 0, fun _ => 0⟩
def upd {α : Type} (f : Nat → α) (n : Nat) (v : α) : Nat → α := fun l => if l = n then v else f l
theorem upd_same {α : Type} (f : Nat → α) (n : Nat) (v : α) : upd f n v n = v := if_pos rfl
theorem upd_ne {α : Type} (f : Nat → α) {n l : Nat} (v : α) (h : l ≠ n) : upd f n v l = f l := if_neg h
def LSt.store (s : LSt) (n off v : Nat) : LSt := { s with st := upd s.st n (s.st n ++ [(off, v)]) }
def LSt.flush (s : LSt) (n : Nat) : LSt := { s with no := upd s.no n (s.st n).length }
def LSt.fence (s : LSt) : LSt := { s with le := fun l => max (s.le l) (s.no l), no := fun _ => 0 }
def lstep (s : LSt) (x : In) : LSt := if x.k = 1 then s.store (x.off / 64) x.off x.v else if x.k = 2 then s.flush (x.off / 64) else s.fence
def i4s (f : Nat → Nat) : List Value := [.int .i64 (f 0 : Int), .int .i64 (f 1 : Int), .int .i64 (f 2 : Int), .int .i64 (f 3 : Int)]
def slv (s : LSt) (aL : Nat → Option Addr) (cL : Nat → Nat) (l : Nat) : Value := .slice (aL l) (s.st l).length (cL l)
def sls (s : LSt) (aL : Nat → Option Addr) (cL : Nat → Nat) : List Value := [slv s aL cL 0, slv s aL cL 1, slv s aL cL 2, slv s aL cL 3]
theorem i4_get (f : Nat → Nat) {n : Nat} (h : n < 4) : (i4s f)[n]? = some (.int .i64 (f n : Int)) := by
  have h4 : n = 0 ∨ n = 1 ∨ n = 2 ∨ n = 3 := by omega
  rcases h4 with rfl | rfl | rfl | rfl <;> rfl
theorem sls_get (s : LSt) (aL : Nat → Option Addr) (cL : Nat → Nat) {n : Nat} (h : n < 4) : (sls s aL cL)[n]? = some (slv s aL cL n) := by
  have h4 : n = 0 ∨ n = 1 ∨ n = 2 ∨ n = 3 := by omega
  rcases h4 with rfl | rfl | rfl | rfl <;> rfl
theorem i4_set (f : Nat → Nat) {n : Nat} (h : n < 4) (v : Nat) : (i4s f).set n (.int .i64 (v : Int)) = i4s (upd f n v) := by
  have h4 : n = 0 ∨ n = 1 ∨ n = 2 ∨ n = 3 := by omega
  rcases h4 with rfl | rfl | rfl | rfl <;> simp [i4s, upd]
theorem sls_set (s : LSt) (aL : Nat → Option Addr) (cL : Nat → Nat) {n : Nat} (h : n < 4) (off v : Nat) (a' : Option Addr) (c' : Nat) :
    (sls s aL cL).set n (.slice a' ((s.st n).length + 1) c') = sls (s.store n off v) (upd aL n a') (upd cL n c') := by
  have h4 : n = 0 ∨ n = 1 ∨ n = 2 ∨ n = 3 := by omega
  rcases h4 with rfl | rfl | rfl | rfl <;> simp [sls, slv, upd, LSt.store]
/-- dLines' memory. -/
structure LnO (w : World) (s : LSt) (aL : Nat → Option Addr) (cL : Nat → Nat) (wr : World) : Prop where
  r0 : Has wr w.heap.size [.slice none 0 0, .slice none 0 0, .slice none 0 0, .slice none 0 0] 95
  r1 : Has wr (w.heap.size + 1) (i4s fun _ => 0) 96
  b4 : Has wr (w.heap.size + 2) (sls s aL cL) 95
  b5 : Has wr (w.heap.size + 3) (i4s s.le) 96
  b6 : Has wr (w.heap.size + 4) (i4s s.no) 96
  o : ∀ l, l < 4 → wr.ownsRow 0 133 2 (slv s aL cL l) (s.st l).length (wcs (s.st l))
  nw : ∀ l, l < 4 → ∀ k, (slv s aL cL l).ownBlock = some k → w.heap.size + 5 ≤ k
  sep : ∀ l m, l < 4 → m < 4 → l ≠ m → ∀ k, (slv s aL cL l).ownBlock = some k → (slv s aL cL m).ownBlock ≠ some k
  b : Below w.heap.size w wr
theorem LnO.size {w wr : World} {s : LSt} {aL : Nat → Option Addr} {cL : Nat → Nat} (h : LnO w s aL cL wr) : w.heap.size + 5 ≤ wr.heap.size := h.b6.lt
theorem LnO.below {w wr wr2 : World} {s : LSt} {aL : Nat → Option Addr} {cL : Nat → Nat} (h : LnO w s aL cL wr) (hb : Below wr.heap.size wr wr2) : LnO w s aL cL wr2 := by
  have O := Only.of_below hb
  have hl := h.size
  exact ⟨h.r0.only O (by omega), h.r1.only O (by omega), h.b4.only O (by omega), h.b5.only O (by omega), h.b6.only O (by omega),
    fun l hl => ownsRow_only (h.o l hl) O (fun k hk e => by have := ownsRow_lt (h.o l hl) hk; omega), h.nw, h.sep, h.b.trans (hb.mono h.b.size)⟩
theorem wcs_snoc (l : List (Nat × Nat)) (off v : Nat) : wcs (l ++ [(off, v)]) = wcs l ++ [.int .u64 (off : Int), .int .u64 (v : Int)] := by simp [wcs]
theorem wcs_len (l : List (Nat × Nat)) : (wcs l).length = l.length * 2 := by
  induction l with
  | nil => rfl
  | cons s l ih => simp only [wcs, List.flatMap_cons, List.length_append, List.length_cons] at *; rw [ih]; simp; omega
theorem LnO.app {w wr w2 : World} {s : LSt} {aL : Nat → Option Addr} {cL : Nat → Nat} (h : LnO w s aL cL wr) {n : Nat} (hn : n < 4) (off v : Nat) {a' : Option Addr} {c' : Nat}
    (own2 : w2.ownsRow 0 133 2 (.slice a' ((s.st n).length + 1) c') ((s.st n).length + 1) (wcs (s.st n) ++ [.int .u64 (off : Int), .int .u64 (v : Int)])) (only2 : Only (fun k => (slv s aL cL n).ownBlock = some k) wr w2)
    (fresh2 : ∀ k, Value.ownBlock (.slice a' ((s.st n).length + 1) c') = some k → (slv s aL cL n).ownBlock = some k ∨ wr.heap.size ≤ k) :
    LnO w (s.store n off v) (upd aL n a') (upd cL n c') (w2.setCell ⟨w.heap.size + 2, n, none⟩ (.slice a' ((s.st n).length + 1) c')) := by
  have hsz := h.size
  have hnw := h.nw n hn
  have hb : ∀ j, j < 5 → ¬ ((slv s aL cL n).ownBlock = some (w.heap.size + j)) := fun j hj e => by have := hnw _ e; omega
  have hfr : ∀ k, Value.ownBlock (.slice a' ((s.st n).length + 1) c') = some k → w.heap.size + 5 ≤ k := fun k hk => by
    rcases fresh2 k hk with h1 | h1
    · exact hnw k h1
    · omega
  have O2 := (Only.refl (fun k => k = w.heap.size + 2) w2).setCell (a := ⟨w.heap.size + 2, n, none⟩) (fun _ => rfl) (.slice a' ((s.st n).length + 1) c')
  have hst : ∀ l, l < 4 → l ≠ n → slv (s.store n off v) (upd aL n a') (upd cL n c') l = slv s aL cL l ∧ (s.store n off v).st l = s.st l := fun l _ hne => by
    simp [slv, LSt.store, upd_ne _ _ hne]
  have hsn : slv (s.store n off v) (upd aL n a') (upd cL n c') n = .slice a' ((s.st n).length + 1) c' ∧ (s.store n off v).st n = s.st n ++ [(off, v)] := by
    simp [slv, LSt.store, upd_same]
  refine ⟨(h.r0.only only2 (hb 0 (by omega))).set_ne (by show w.heap.size ≠ w.heap.size + 2; omega) _, (h.r1.only only2 (hb 1 (by omega))).set_ne (by show w.heap.size + 1 ≠ w.heap.size + 2; omega) _, ?_,
    (h.b5.only only2 (hb 3 (by omega))).set_ne (by show w.heap.size + 3 ≠ w.heap.size + 2; omega) _, (h.b6.only only2 (hb 4 (by omega))).set_ne (by show w.heap.size + 4 ≠ w.heap.size + 2; omega) _, ?_, ?_, ?_, ?_⟩
  · have := (h.b4.only only2 (hb 2 (by omega))).set n (.slice a' ((s.st n).length + 1) c')
    rw [sls_set s aL cL hn off v a' c'] at this
    exact this
  · intro l hl
    by_cases e : l = n
    · subst e
      rw [hsn.1, hsn.2, wcs_snoc, List.length_append]
      exact ownsRow_only own2 O2 (fun k hk e => by have := hfr k hk; omega)
    · rw [(hst l hl e).1, (hst l hl e).2]
      exact ownsRow_only (ownsRow_only (h.o l hl) only2 (fun k hk e1 => h.sep l n hl hn e k hk e1)) O2 (fun k hk e => by have := h.nw l hl k hk; omega)
  · intro l hl k hk
    by_cases e : l = n
    · subst e; rw [hsn.1] at hk; exact hfr k hk
    · rw [(hst l hl e).1] at hk; exact h.nw l hl k hk
  · intro l m hl hm hlm k hk hk2
    by_cases e : l = n
    · subst e
      rw [hsn.1] at hk
      rw [(hst m hm (Ne.symm hlm)).1] at hk2
      rcases fresh2 k hk with h1 | h1
      · exact h.sep l m hl hm hlm k h1 hk2
      · have := ownsRow_lt (h.o m hm) hk2; omega
    · rw [(hst l hl e).1] at hk
      by_cases e2 : m = n
      · subst e2
        rw [hsn.1] at hk2
        rcases fresh2 k hk2 with h1 | h1
        · exact h.sep l m hl hm hlm k hk h1
        · have := ownsRow_lt (h.o l hl) hk; omega
      · rw [(hst m hm e2).1] at hk2; exact h.sep l m hl hm hlm k hk hk2
  · exact (h.b.trans (only2.below (B := w.heap.size) (by omega) (fun k _ e => by have := hnw k e; omega))).setCell (p := ⟨w.heap.size + 2, n, none⟩) (by show w.heap.size ≤ w.heap.size + 2; omega) _
theorem LnO.flush {w wr : World} {s : LSt} {aL : Nat → Option Addr} {cL : Nat → Nat} (h : LnO w s aL cL wr) {n : Nat} (hn : n < 4) :
    LnO w (s.flush n) aL cL (wr.setCell ⟨w.heap.size + 4, n, none⟩ (.int .i64 ((s.st n).length : Int))) := by
  have O2 := (Only.refl (fun k => k = w.heap.size + 4) wr).setCell (a := ⟨w.heap.size + 4, n, none⟩) (fun _ => rfl) (.int .i64 ((s.st n).length : Int))
  refine ⟨h.r0.only O2 (by omega), h.r1.only O2 (by omega), h.b4.only O2 (by omega), h.b5.only O2 (by omega), ?_, fun l hl => ownsRow_only (h.o l hl) O2 (fun k hk e => by have := h.nw l hl k hk; omega), h.nw, h.sep,
    h.b.setCell (p := ⟨w.heap.size + 4, n, none⟩) (by show w.heap.size ≤ w.heap.size + 4; omega) _⟩
  have := h.b6.set n (.int .i64 ((s.st n).length : Int))
  rw [i4_set s.no hn (s.st n).length] at this
  exact this
theorem LnO.least {w wr : World} {s : LSt} {aL : Nat → Option Addr} {cL : Nat → Nat} (h : LnO w s aL cL wr) {n : Nat} (hn : n < 4) (v : Nat) :
    LnO w { s with le := upd s.le n v } aL cL (wr.setCell ⟨w.heap.size + 3, n, none⟩ (.int .i64 (v : Int))) := by
  have O2 := (Only.refl (fun k => k = w.heap.size + 3) wr).setCell (a := ⟨w.heap.size + 3, n, none⟩) (fun _ => rfl) (.int .i64 (v : Int))
  refine ⟨h.r0.only O2 (by omega), h.r1.only O2 (by omega), h.b4.only O2 (by omega), ?_, h.b6.only O2 (by omega), fun l hl => ownsRow_only (h.o l hl) O2 (fun k hk e => by have := h.nw l hl k hk; omega), h.nw, h.sep,
    h.b.setCell (p := ⟨w.heap.size + 3, n, none⟩) (by show w.heap.size ≤ w.heap.size + 3; omega) _⟩
  have := h.b5.set n (.int .i64 (v : Int))
  rw [i4_set s.le hn v] at this
  exact this
end Go.Proofs.Ytjmdibgncaljaaa

namespace Go.Proofs.Ytjmdibgncaljaaa
open Go.RowKit
theorem infoWr : (Try.prog.info? 133).map (fun i => (i.zero, i.size, i.bytes)) = some (some (.agg #[.int .u64 0, .int .u64 0]), 2, 16) := by kernel_rfl
theorem lstep_le (l : List In) : ∀ (s : LSt) (B : Nat), (∀ n, (s.st n).length ≤ B ∧ s.le n ≤ B ∧ s.no n ≤ B) → ∀ n, ((l.foldl lstep s).st n).length ≤ B + l.length ∧ (l.foldl lstep s).le n ≤ B + l.length ∧ (l.foldl lstep s).no n ≤ B + l.length := by
  induction l with
  | nil => intro s B h n; exact h n
  | cons x l ih =>
    intro s B h n
    have := ih (lstep s x) (B + 1) (fun n => by
      obtain ⟨h1, h2, h3⟩ := h n
      unfold lstep LSt.store LSt.flush LSt.fence upd
      split
      · simp only
        refine ⟨?_, by omega, by omega⟩
        split
        · rename_i e; subst e; simp; omega
        · omega
      · split
        · simp only
          refine ⟨by omega, by omega, ?_⟩
          split
          · rename_i e; subst e; omega
          · omega
        · simp only
          refine ⟨by omega, by omega, by omega⟩) n
    simp only [List.foldl_cons, List.length_cons]
    omega
theorem Only.undrew {S : Nat → Prop} {w w' : World} (h : Only S w.drew w') : Only S w w' := ⟨h.os, h.tape, h.output, h.size, h.block⟩
theorem LnO.zero {w wr : World} {s : LSt} {aL : Nat → Option Addr} {cL : Nat → Nat} (h : LnO w { s with le := fun l => if l < 4 then max (s.le l) (s.no l) else s.le l } aL cL wr) :
    LnO w s.fence aL cL ((((wr.setCell ⟨w.heap.size + 4, 0, none⟩ (.int .i64 0)).setCell ⟨w.heap.size + 4, 1, none⟩ (.int .i64 0)).setCell ⟨w.heap.size + 4, 2, none⟩ (.int .i64 0)).setCell ⟨w.heap.size + 4, 3, none⟩ (.int .i64 0)) := by
  have O2 := ((((Only.refl (fun k => k = w.heap.size + 4) wr).setCell (a := ⟨w.heap.size + 4, 0, none⟩) (fun _ => rfl) (.int .i64 0)).setCell (a := ⟨w.heap.size + 4, 1, none⟩) (fun _ => rfl) (.int .i64 0)).setCell (a := ⟨w.heap.size + 4, 2, none⟩) (fun _ => rfl) (.int .i64 0)).setCell (a := ⟨w.heap.size + 4, 3, none⟩) (fun _ => rfl) (.int .i64 0)
  refine ⟨h.r0.only O2 (by omega), h.r1.only O2 (by omega), h.b4.only O2 (by omega), ?_, ?_, fun l hl => ownsRow_only (h.o l hl) O2 (fun k hk e => by have := h.nw l hl k hk; omega), h.nw, h.sep, ?_⟩
  · exact h.b5.only O2 (by omega)
  · exact (((h.b6.set 0 (.int .i64 0)).set 1 (.int .i64 0)).set 2 (.int .i64 0)).set 3 (.int .i64 0)
  · exact (((h.b.setCell (p := ⟨w.heap.size + 4, 0, none⟩) (by show w.heap.size ≤ w.heap.size + 4; omega) _).setCell (p := ⟨w.heap.size + 4, 1, none⟩) (by show w.heap.size ≤ w.heap.size + 4; omega) _).setCell (p := ⟨w.heap.size + 4, 2, none⟩) (by show w.heap.size ≤ w.heap.size + 4; omega) _).setCell (p := ⟨w.heap.size + 4, 3, none⟩) (by show w.heap.size ≤ w.heap.size + 4; omega) _
/-- Four cells of an array. -/
def put4 (w : World) (b : Nat) (v0 v1 v2 v3 : Value) : World := (((w.setCell ⟨b, 0, none⟩ v0).setCell ⟨b, 1, none⟩ v1).setCell ⟨b, 2, none⟩ v2).setCell ⟨b, 3, none⟩ v3
theorem put4_only (w : World) (b : Nat) (v0 v1 v2 v3 : Value) : Only (fun k => k = b) w (put4 w b v0 v1 v2 v3) :=
  ((((Only.refl (fun k => k = b) w).setCell (a := ⟨b, 0, none⟩) (fun _ => rfl) v0).setCell (a := ⟨b, 1, none⟩) (fun _ => rfl) v1).setCell (a := ⟨b, 2, none⟩) (fun _ => rfl) v2).setCell (a := ⟨b, 3, none⟩) (fun _ => rfl) v3
theorem put4_has {w : World} {b : Nat} {T : TypeId} {u0 u1 u2 u3 : Value} (h : Has w b [u0, u1, u2, u3] T) (v0 v1 v2 v3 : Value) : Has (put4 w b v0 v1 v2 v3) b [v0, v1, v2, v3] T :=
  (((h.set 0 v0).set 1 v1).set 2 v2).set 3 v3
/-- What dLines leaves. -/
structure LnR (w : World) (s : LSt) (aL : Nat → Option Addr) (cL : Nat → Nat) (wr : World) : Prop where
  r0 : Has wr w.heap.size (sls s aL cL) 95
  r1 : Has wr (w.heap.size + 1) (i4s s.le) 96
  o : ∀ l, l < 4 → wr.ownsRow 0 133 2 (slv s aL cL l) (s.st l).length (wcs (s.st l))
  nw : ∀ l, l < 4 → ∀ k, (slv s aL cL l).ownBlock = some k → w.heap.size + 5 ≤ k
  b : Below w.heap.size w wr
theorem LnR.heap {w wr wr2 : World} {s : LSt} {aL : Nat → Option Addr} {cL : Nat → Nat} (h : LnR w s aL cL wr) (hb : Below wr.heap.size wr wr2) : LnR w s aL cL wr2 := by
  have O := Only.of_below hb
  have h1 := h.r1.lt
  exact ⟨h.r0.only O (by omega), h.r1.only O (by omega), fun l hl => ownsRow_only (h.o l hl) O (fun k hk e => by have := ownsRow_lt (h.o l hl) hk; omega), h.nw, h.b.trans (hb.mono h.b.size)⟩
theorem LnO.done {w wr : World} {s : LSt} {aL : Nat → Option Addr} {cL : Nat → Nat} (h : LnO w s aL cL wr) :
    LnR w s aL cL (put4 (put4 wr w.heap.size (slv s aL cL 0) (slv s aL cL 1) (slv s aL cL 2) (slv s aL cL 3)) (w.heap.size + 1) (.int .i64 (s.le 0 : Int)) (.int .i64 (s.le 1 : Int)) (.int .i64 (s.le 2 : Int)) (.int .i64 (s.le 3 : Int))) ∧
    LnR w s aL cL (put4 (put4 wr (w.heap.size + 1) (.int .i64 (s.le 0 : Int)) (.int .i64 (s.le 1 : Int)) (.int .i64 (s.le 2 : Int)) (.int .i64 (s.le 3 : Int))) w.heap.size (slv s aL cL 0) (slv s aL cL 1) (slv s aL cL 2) (slv s aL cL 3)) := by
  have A0 := fun wx => put4_only wx w.heap.size (slv s aL cL 0) (slv s aL cL 1) (slv s aL cL 2) (slv s aL cL 3)
  have A1 := fun wx => put4_only wx (w.heap.size + 1) (.int .i64 (s.le 0 : Int)) (.int .i64 (s.le 1 : Int)) (.int .i64 (s.le 2 : Int)) (.int .i64 (s.le 3 : Int))
  have O : ∀ wx, Only (fun k => k = w.heap.size ∨ k = w.heap.size + 1) wr wx → ∀ l, l < 4 → wx.ownsRow 0 133 2 (slv s aL cL l) (s.st l).length (wcs (s.st l)) := fun wx ho l hl =>
    ownsRow_only (h.o l hl) ho (fun k hk e => by have := h.nw l hl k hk; omega)
  have B : ∀ wx, Only (fun k => k = w.heap.size ∨ k = w.heap.size + 1) wr wx → Below w.heap.size w wx := fun wx ho => h.b.trans (ho.below h.b.size (fun k _ e => by omega))
  have O1 := (A0 wr).both (A1 _)
  have O2 := ((A1 wr).both (A0 _)).mono (fun k _ e => e.symm)
  exact ⟨⟨(put4_has h.r0 _ _ _ _).only (A1 _) (by omega), put4_has (h.r1.only (A0 _) (by omega)) _ _ _ _, O _ O1, h.nw, B _ O1⟩,
    ⟨put4_has (h.r0.only (A1 _) (by omega)) _ _ _ _, (put4_has h.r1 _ _ _ _).only (A0 _) (by omega), O _ O2, h.nw, B _ O2⟩⟩
def LnPost (w : World) (s : LSt) (e : Ending) (w' : World) : Prop := ∃ aL cL, e = .returned (.tuple #[.agg (sls s aL cL).toArray, .agg (i4s s.le).toArray]) ∧ LnR w s aL cL w'
set_option maxHeartbeats 4000000 in
set_option maxRecDepth 100000 in
theorem dlines_any (a : Option Addr) (c : Nat) (l : List In) (hf : ∀ x ∈ l, x.Fit) (hll : l.length ≤ 1000) (w : World) (hr : Rd w (.slice a l.length c) l.length (inCells l)) :
    Calls Try.prog 33 #[.slice a l.length c] w (LnPost w (l.foldl lstep lst0)) := by
  generalize hpost : LnPost w (l.foldl lstep lst0) = post
  replace hpost := Lib.hid hpost
  obtain ⟨w0, hw0⟩ : ∃ w0, w0 = ((((w.alloc (.cells #[.slice none 0 0, .slice none 0 0, .slice none 0 0, .slice none 0 0] 95)).alloc (.cells #[.int .i64 0, .int .i64 0, .int .i64 0, .int .i64 0] 96)).alloc (.cells #[.slice none 0 0, .slice none 0 0, .slice none 0 0, .slice none 0 0] 95)).alloc (.cells #[.int .i64 0, .int .i64 0, .int .i64 0, .int .i64 0] 96)).alloc (.cells #[.int .i64 0, .int .i64 0, .int .i64 0, .int .i64 0] 96) := ⟨_, rfl⟩
  have hE0 : LnO w lst0 (fun _ => none) (fun _ => 0) w0 := by
    have hB0 : Below w.heap.size w w0 := by rw [hw0]; exact (((((Below.refl _ _).alloc (Nat.le_refl _) _).alloc (by simp only [World.size_alloc]; omega) _).alloc (by simp only [World.size_alloc]; omega) _).alloc (by simp only [World.size_alloc]; omega) _).alloc (by simp only [World.size_alloc]; omega) _
    rw [hw0]
    refine ⟨((((Has.new w _ _).alloc _).alloc _).alloc _).alloc _, ?_, ?_, ?_, ?_, fun l hl => World.ownsRow_nil _ _ _ _, fun l hl k hk => (by cases hk), fun l m _ _ _ k hk => (by cases hk), by rw [← hw0]; exact hB0⟩
    · have := Has.new (w.alloc (.cells #[.slice none 0 0, .slice none 0 0, .slice none 0 0, .slice none 0 0] 95)) (i4s fun _ => 0) 96
      simp only [World.size_alloc] at this
      exact ((this.alloc _).alloc _).alloc _
    · have := Has.new ((w.alloc (.cells #[.slice none 0 0, .slice none 0 0, .slice none 0 0, .slice none 0 0] 95)).alloc (.cells #[.int .i64 0, .int .i64 0, .int .i64 0, .int .i64 0] 96)) (sls lst0 (fun _ => none) (fun _ => 0)) 95
      simp only [World.size_alloc] at this
      exact (this.alloc _).alloc _
    · have := Has.new (((w.alloc (.cells #[.slice none 0 0, .slice none 0 0, .slice none 0 0, .slice none 0 0] 95)).alloc (.cells #[.int .i64 0, .int .i64 0, .int .i64 0, .int .i64 0] 96)).alloc (.cells #[.slice none 0 0, .slice none 0 0, .slice none 0 0, .slice none 0 0] 95)) (i4s fun _ => 0) 96
      simp only [World.size_alloc] at this
      exact this.alloc _
    · have := Has.new ((((w.alloc (.cells #[.slice none 0 0, .slice none 0 0, .slice none 0 0, .slice none 0 0] 95)).alloc (.cells #[.int .i64 0, .int .i64 0, .int .i64 0, .int .i64 0] 96)).alloc (.cells #[.slice none 0 0, .slice none 0 0, .slice none 0 0, .slice none 0 0] 95)).alloc (.cells #[.int .i64 0, .int .i64 0, .int .i64 0, .int .i64 0] 96)) (i4s fun _ => 0) 96
      simp only [World.size_alloc] at this
      exact this
  replace hw0 := Lib.hid hw0
  go_enter Try.func33, Try.ntmps33
  go_wp2_with fail
  rw [show ((((w.alloc (.cells #[.slice none 0 0, .slice none 0 0, .slice none 0 0, .slice none 0 0] 95)).alloc (.cells #[.int .i64 0, .int .i64 0, .int .i64 0, .int .i64 0] 96)).alloc (.cells #[.slice none 0 0, .slice none 0 0, .slice none 0 0, .slice none 0 0] 95)).alloc (.cells #[.int .i64 0, .int .i64 0, .int .i64 0, .int .i64 0] 96)).alloc (.cells #[.int .i64 0, .int .i64 0, .int .i64 0, .int .i64 0] 96) = w0 from hw0.out.symm]
  go_loopw [13] (fun i wr => ∃ (k : Nat) (aL : Nat → Option Addr) (cL : Nat → Nat), k ≤ l.length ∧ i = .int .i64 (k : Int) ∧ LnO w ((l.take k).foldl lstep lst0) aL cL wr) (fun i _ => l.length - (intOf i).toNat)
  case atStart => exact ⟨0, fun _ => none, fun _ => 0, Nat.zero_le _, rfl, hE0⟩
  case round =>
    clear hE0
    obtain ⟨k, aL, cL, hk, rfl, hL⟩ := hrel
    by_cases hlt : k < l.length
    · have hlI : (k : Int) < (l.length : Int) := by omega
      obtain ⟨bl, ol, cl, ea, fa⟩ := (hr.kept hL.b).cells (by omega)
      simp only [Value.slice.injEq, true_and] at ea
      obtain ⟨rfl, hcp⟩ := ea
      replace hcp := Lib.hid hcp
      have hat := Dev.get_of_lt (⟨0, 0, 0⟩ : In) hlt
      have hfa := hf _ (List.mem_of_getElem? hat)
      have htk : (l.take (k + 1)).foldl lstep lst0 = lstep ((l.take k).foldl lstep lst0) (l.getD k ⟨0, 0, 0⟩) := by
        rw [take_getD l k ⟨0, 0, 0⟩ hlt, List.foldl_append]; rfl
      obtain ⟨x, hx⟩ : ∃ x, x = l.getD k ⟨0, 0, 0⟩ := ⟨_, rfl⟩
      rw [← hx] at hat hfa htk
      have c0 : wr.cell? ⟨bl, ol + k * 3, none⟩ = some (.int .u8 (x.k : Int)) := fa _ _ (inCells_get l k x hat 0 _ rfl)
      have c1 : wr.cell? ⟨bl, ol + k * 3 + 1, none⟩ = some (.int .u64 (x.off : Int)) := fa _ _ (inCells_get l k x hat 1 _ rfl)
      have c2 : wr.cell? ⟨bl, ol + k * 3 + 2, none⟩ = some (.int .u64 (x.v : Int)) := fa _ _ (inCells_get l k x hat 2 _ rfl)
      obtain ⟨wb, hwb⟩ : ∃ wb, wb = wr.alloc (.cells #[.int .u8 (x.k : Int), .int .u64 (x.off : Int), .int .u64 (x.v : Int)] 85) := ⟨_, rfl⟩
      have hBw : Below wr.heap.size wr wb := by rw [hwb]; exact (Below.refl _ _).alloc (Nat.le_refl _) _
      have hL1 := hL.below hBw
      have hX1 : Has wb wr.heap.size [.int .u8 (x.k : Int), .int .u64 (x.off : Int), .int .u64 (x.v : Int)] 85 := by rw [hwb]; exact Has.new wr [.int .u8 (x.k : Int), .int .u64 (x.off : Int), .int .u64 (x.v : Int)] 85
      have hlen := lstep_le (l.take k) lst0 0 (fun n => by simp [lst0])
      have htl : (l.take k).length = k := by rw [List.length_take, Nat.min_eq_left hk]
      rw [htl] at hlen
      generalize (l.take k).foldl lstep lst0 = s at *
      have x0 := hX1.cell (o := 0) rfl
      have x1 := hX1.cell (o := 1) rfl
      have x2 := hX1.cell (o := 2) rfl
      obtain ⟨xk, off, v⟩ := x
      obtain ⟨hxk, ho, hal, hv⟩ := hfa
      simp only at hxk ho hal hv x0 x1 x2 c0 c1 c2 hwb hX1
      obtain ⟨n, hn⟩ : ∃ n, n = off / 64 := ⟨_, rfl⟩
      have hn4 : n < 4 := by omega
      have hdv : ((off : Int)).tdiv 64 = (n : Int) := by rw [hn]; rfl
      have hdv2 : ((off : Int)) / 64 = (n : Int) := by rw [hn]; rfl
      have hnI : (n : Int) < 4 := by omega
      have hn0 : (0 : Int) ≤ (n : Int) := by omega
      have x4 : wb.cell? ⟨w.heap.size + 1 + 1, n, none⟩ = some (.slice (aL n) (s.st n).length (cL n)) := hL1.b4.cell (o := n) (sls_get s aL cL hn4)
      have f4 : wb.frozen? ⟨w.heap.size + 1 + 1, n, none⟩ = false := hL1.b4.free n
      have x6 : wb.cell? ⟨w.heap.size + 1 + 1 + 1 + 1, n, none⟩ = some (.int .i64 (s.no n : Int)) := hL1.b6.cell (o := n) (i4_get s.no hn4)
      have f6 : wb.frozen? ⟨w.heap.size + 1 + 1 + 1 + 1, n, none⟩ = false := hL1.b6.free n
      have hwl := (hlen n).1
      have hls : lstep s ⟨xk, off, v⟩ = if xk = 1 then s.store n off v else if xk = 2 then s.flush n else s.fence := by rw [hn]; rfl
      rw [hls] at htk
      replace hL1 := Lib.hid hL1
      replace hat := Lib.hid hat
      replace htk := Lib.hid htk
      replace hwb := Lib.hid hwb
      replace hx := Lib.hid hx
      replace hn := Lib.hid hn
      have h3 : xk = 1 ∨ xk = 2 ∨ xk = 3 := by omega
      clear fa hL hX1 hls hBw
      rcases h3 with rfl | rfl | rfl
      · replace htk := Lib.hid (htk.out.trans (if_pos rfl))
        have hg5 := Has.new wb [.int .u64 (off : Int), .int .u64 (v : Int)] 133
        have hBa : Below wb.heap.size wb (wb.alloc (.cells [.int .u64 (off : Int), .int .u64 (v : Int)].toArray 133)) := (Below.refl _ _).alloc (Nat.le_refl _) _
        have hL2 := hL1.out.below hBa
        have hn5 := Lib.hid (Dev.news_two (hg5.cell (o := 0) rfl) (hg5.cell (o := 1) rfl))
        have ho5 := Lib.hid (hL2.o n hn4)
        have hlb : ((s.st n).length + 1) * 16 ≤ 140737488355328 := by omega
        have hnwn := hL2.nw n hn4
        have hsz := hL1.out.size
        have x4' : (wb.alloc (.cells #[.int .u64 (off : Int), .int .u64 (v : Int)] 133)).cell? ⟨w.heap.size + 1 + 1, n, none⟩ = some (.slice (aL n) (s.st n).length (cL n)) := hL2.b4.cell (o := n) (sls_get s aL cL hn4)
        replace hL2 := Lib.hid hL2
        replace hnwn := Lib.hid hnwn
        clear hBa hg5
        go_wp2_with fail
        rw [show wr.alloc (.cells #[.int .u8 1, .int .u64 (off : Int), .int .u64 (v : Int)] 85) = wb from hwb.out.symm]
        go_region_law (first
          | (refine Dev.step_app2 (by rfl) _ _ _ (by rfl) 133 (.agg #[.int .u64 0, .int .u64 0]) 2 16 Try.underlying88 infoWr (by rfl) (by decide) (by decide) (aL n) (s.st n).length (cL n) (wcs (s.st n)) (by exact ho5.out) (by rfl) ⟨wb.heap.size, 0, none⟩ 1 1 [.int .u64 (off : Int), .int .u64 (v : Int)] (by rfl) (by rfl) (by exact hn5.out) (by simp [Value.oneCell']) (by omega) ?_; intro sa6 cp6 w6 own6 only6 fr6; replace only6 := only6.undrew; have hS7 := hL2.out.b4.only only6 (fun e => by have := hnwn.out _ e; omega); have g7 : w6.cell? ⟨w.heap.size + 1 + 1, n, none⟩ = some (.slice (aL n) (s.st n).length (cL n)) := hS7.cell (o := n) (sls_get s aL cL hn4); have f7 : w6.frozen? ⟨w.heap.size + 1 + 1, n, none⟩ = false := hS7.free n; clear hS7; replace own6 := Lib.hid own6; replace only6 := Lib.hid only6; replace fr6 := Lib.hid fr6))
        all_goals
          have hrel' := Lib.hid (hL1.out.below ((Below.refl _ _).alloc (Nat.le_refl _) (.cells #[.int .u64 (off : Int), .int .u64 (v : Int)] 133)) |>.app hn4 off v own6.out only6.out fr6.out)
          clear hn5 ho5 hL2 hnwn x4 x4' f4 x6 f6 hL1 own6 only6 fr6 x0 x1 x2 c0 c1 c2 g7 f7
          have htk2 := htk
          go_wp2_with fail
          rw [← htk2.out] at hrel'
          exact ⟨⟨k + 1, _, _, by omega, by go_num, hrel'.out⟩, by simp [intOf]; omega⟩
      · have hrel' := hL1.out.flush hn4
        replace htk := Lib.hid (htk.out.trans (by rw [if_neg (by decide), if_pos rfl]))
        have hwb2 : wb = wr.alloc (.cells #[.int .u8 2, .int .u64 (off : Int), .int .u64 (v : Int)] 85) := hwb.out
        rw [hwb2] at hrel' x4 x6 f6
        replace hrel' := Lib.hid hrel'
        replace hwb2 := Lib.hid hwb2
        clear hL1 x0 x1 x2 f4
        have htk2 := htk
        go_wp2_with fail
        exact ⟨⟨k + 1, aL, cL, by omega, by go_num, by rw [htk2.out]; exact hrel'.out⟩, by simp [intOf]; omega⟩
      · replace htk := Lib.hid (htk.out.trans (by rw [if_neg (by decide), if_neg (by decide)]))
        go_wp2_with fail
        rw [show wr.alloc (.cells #[.int .u8 3, .int .u64 (off : Int), .int .u64 (v : Int)] 85) = wb from hwb.out.symm]
        clear x4 f4 x6 f6 x0 x1 x2 c0 c1 c2 hdv hdv2 hnI hn0
        obtain ⟨N4, hN4⟩ : ∃ N4 : Nat, N4 = 4 := ⟨4, rfl⟩
        replace hN4 := Lib.hid hN4
        go_loopw [22] (fun i wz => ∃ (j : Nat), j ≤ 4 ∧ i = .int .i64 (j : Int) ∧ LnO w { s with le := fun l => if l < j then max (s.le l) (s.no l) else s.le l } aL cL wz) (fun i _ => 4 - (intOf i).toNat)
        case atStart => exact ⟨0, by omega, rfl, by simpa using hL1.out⟩
        case round =>
          obtain ⟨j, hj, rfl, hM⟩ := hrel
          clear hL1
          by_cases hj4 : j < 4
          · have hd := decide_eq_true (show (j : Int) < 4 by omega)
            have hw1 := Lib.hid (show wrap64 ((j : Int) + 1) = (j : Int) + 1 by unfold wrap64; omega)
            have ej : (fun l => if l < j then max (s.le l) (s.no l) else s.le l) j = s.le j := if_neg (Nat.lt_irrefl j)
            have y5 : wr.cell? ⟨w.heap.size + 1 + 1 + 1, j, none⟩ = some (.int .i64 (s.le j : Int)) := by rw [← ej]; exact hM.b5.cell (o := j) (i4_get _ hj4)
            have y6 : wr.cell? ⟨w.heap.size + 1 + 1 + 1 + 1, j, none⟩ = some (.int .i64 (s.no j : Int)) := hM.b6.cell (o := j) (i4_get _ hj4)
            have f5 : wr.frozen? ⟨w.heap.size + 1 + 1 + 1, j, none⟩ = false := hM.b5.free j
            have hnext : ∀ r, r = max (s.le j) (s.no j) → LnO w { s with le := fun l => if l < j + 1 then max (s.le l) (s.no l) else s.le l } aL cL (wr.setCell ⟨w.heap.size + 3, j, none⟩ (.int .i64 (r : Int))) := fun r hr => by
              have := hM.least hj4 r
              have e : upd (fun l => if l < j then max (s.le l) (s.no l) else s.le l) j r = fun l => if l < j + 1 then max (s.le l) (s.no l) else s.le l := by
                funext l
                show (if l = j then r else if l < j then max (s.le l) (s.no l) else s.le l) = if l < j + 1 then max (s.le l) (s.no l) else s.le l
                by_cases h1 : l = j
                · subst h1; rw [if_pos rfl, if_pos (Nat.lt_succ_self _), hr]
                · rw [if_neg h1]
                  by_cases h2 : l < j
                  · rw [if_pos h2, if_pos (by omega)]
                  · rw [if_neg h2, if_neg (by omega)]
              simp only [e] at this
              exact this
            have hjI : (j : Int) < 4 := by omega
            have hj0 : (0 : Int) ≤ (j : Int) := by omega
            replace hj4 := Lib.hid hj4
            replace hj := Lib.hid hj
            clear hM
            generalize s.le j = x at *
            generalize s.no j = y at *
            by_cases hm : x < y
            · have hmI : (x : Int) < (y : Int) := by omega
              have hf := Lib.hid (hnext y (by omega))
              clear hnext
              go_wp2_with fail
              go_region
              all_goals
                go_wp2_with fail
                exact ⟨⟨j + 1, by have := hj4.out; omega, by go_num, hf.out.below (Below.refl _ _).drew⟩, by have := hj4.out; simp [intOf]; omega⟩
            · have hmI : ¬ (x : Int) < (y : Int) := by omega
              have hf := Lib.hid (hnext x (by omega))
              clear hnext
              go_wp2_with fail
              go_region
              all_goals
                go_wp2_with fail
                exact ⟨⟨j + 1, by have := hj4.out; omega, by go_num, hf.out.below (Below.refl _ _).drew⟩, by have := hj4.out; simp [intOf]; omega⟩
          · obtain rfl : j = 4 := by omega
            have hrel' := Lib.hid hM.zero
            have q0 : wr.cell? ⟨w.heap.size + 1 + 1 + 1 + 1, 0, none⟩ = some (.int .i64 (s.no 0 : Int)) := hM.b6.cell (o := 0) rfl
            have q1 : wr.cell? ⟨w.heap.size + 1 + 1 + 1 + 1, 1, none⟩ = some (.int .i64 (s.no 1 : Int)) := hM.b6.cell (o := 1) rfl
            have q2 : wr.cell? ⟨w.heap.size + 1 + 1 + 1 + 1, 2, none⟩ = some (.int .i64 (s.no 2 : Int)) := hM.b6.cell (o := 2) rfl
            have q3 : wr.cell? ⟨w.heap.size + 1 + 1 + 1 + 1, 3, none⟩ = some (.int .i64 (s.no 3 : Int)) := hM.b6.cell (o := 3) rfl
            have p0 : wr.frozen? ⟨w.heap.size + 1 + 1 + 1 + 1, 0, none⟩ = false := hM.b6.free 0
            have p1 : wr.frozen? ⟨w.heap.size + 1 + 1 + 1 + 1, 1, none⟩ = false := hM.b6.free 1
            have p2 : wr.frozen? ⟨w.heap.size + 1 + 1 + 1 + 1, 2, none⟩ = false := hM.b6.free 2
            have p3 : wr.frozen? ⟨w.heap.size + 1 + 1 + 1 + 1, 3, none⟩ = false := hM.b6.free 3
            have htk2 := htk
            clear hM
            go_wp2_with fail
            rw [← htk2.out] at hrel'
            exact ⟨⟨k + 1, aL, cL, by omega, by go_num, hrel'.out⟩, by simp [intOf]; omega⟩
    · obtain rfl : k = l.length := by omega
      have hlI : ¬ (l.length : Int) < (l.length : Int) := by omega
      rw [List.take_length] at hL
      generalize l.foldl lstep lst0 = s at *
      have z0 : wr.cell? ⟨w.heap.size + 1 + 1, 0, none⟩ = some (.slice (aL 0) (s.st 0).length (cL 0)) := hL.b4.cell (o := 0) rfl
      have z1 : wr.cell? ⟨w.heap.size + 1 + 1, 1, none⟩ = some (.slice (aL 1) (s.st 1).length (cL 1)) := hL.b4.cell (o := 1) rfl
      have z2 : wr.cell? ⟨w.heap.size + 1 + 1, 2, none⟩ = some (.slice (aL 2) (s.st 2).length (cL 2)) := hL.b4.cell (o := 2) rfl
      have z3 : wr.cell? ⟨w.heap.size + 1 + 1, 3, none⟩ = some (.slice (aL 3) (s.st 3).length (cL 3)) := hL.b4.cell (o := 3) rfl
      have y0 : wr.cell? ⟨w.heap.size + 1 + 1 + 1, 0, none⟩ = some (.int .i64 (s.le 0 : Int)) := hL.b5.cell (o := 0) rfl
      have y1 : wr.cell? ⟨w.heap.size + 1 + 1 + 1, 1, none⟩ = some (.int .i64 (s.le 1 : Int)) := hL.b5.cell (o := 1) rfl
      have y2 : wr.cell? ⟨w.heap.size + 1 + 1 + 1, 2, none⟩ = some (.int .i64 (s.le 2 : Int)) := hL.b5.cell (o := 2) rfl
      have y3 : wr.cell? ⟨w.heap.size + 1 + 1 + 1, 3, none⟩ = some (.int .i64 (s.le 3 : Int)) := hL.b5.cell (o := 3) rfl
      have r0 : wr.cell? ⟨w.heap.size, 0, none⟩ = some (.slice none 0 0) := hL.r0.cell (o := 0) rfl
      have r1 : wr.cell? ⟨w.heap.size, 1, none⟩ = some (.slice none 0 0) := hL.r0.cell (o := 1) rfl
      have r2 : wr.cell? ⟨w.heap.size, 2, none⟩ = some (.slice none 0 0) := hL.r0.cell (o := 2) rfl
      have r3 : wr.cell? ⟨w.heap.size, 3, none⟩ = some (.slice none 0 0) := hL.r0.cell (o := 3) rfl
      have s0 : wr.cell? ⟨w.heap.size + 1, 0, none⟩ = some (.int .i64 0) := hL.r1.cell (o := 0) rfl
      have s1 : wr.cell? ⟨w.heap.size + 1, 1, none⟩ = some (.int .i64 0) := hL.r1.cell (o := 1) rfl
      have s2 : wr.cell? ⟨w.heap.size + 1, 2, none⟩ = some (.int .i64 0) := hL.r1.cell (o := 2) rfl
      have s3 : wr.cell? ⟨w.heap.size + 1, 3, none⟩ = some (.int .i64 0) := hL.r1.cell (o := 3) rfl
      have m0 : wr.frozen? ⟨w.heap.size, 0, none⟩ = false := hL.r0.free 0
      have m1 : wr.frozen? ⟨w.heap.size, 1, none⟩ = false := hL.r0.free 1
      have m2 : wr.frozen? ⟨w.heap.size, 2, none⟩ = false := hL.r0.free 2
      have m3 : wr.frozen? ⟨w.heap.size, 3, none⟩ = false := hL.r0.free 3
      have n0 : wr.frozen? ⟨w.heap.size + 1, 0, none⟩ = false := hL.r1.free 0
      have n1 : wr.frozen? ⟨w.heap.size + 1, 1, none⟩ = false := hL.r1.free 1
      have n2 : wr.frozen? ⟨w.heap.size + 1, 2, none⟩ = false := hL.r1.free 2
      have n3 : wr.frozen? ⟨w.heap.size + 1, 3, none⟩ = false := hL.r1.free 3
      obtain ⟨wf, hwf⟩ : ∃ wf, wf = put4 (put4 wr w.heap.size (.slice (aL 0) (s.st 0).length (cL 0)) (.slice (aL 1) (s.st 1).length (cL 1)) (.slice (aL 2) (s.st 2).length (cL 2)) (.slice (aL 3) (s.st 3).length (cL 3))) (w.heap.size + 1) (.int .i64 (s.le 0 : Int)) (.int .i64 (s.le 1 : Int)) (.int .i64 (s.le 2 : Int)) (.int .i64 (s.le 3 : Int)) := ⟨_, rfl⟩
      have hR : LnR w s aL cL wf := by rw [hwf]; exact hL.done.1
      have u0 : wf.cell? ⟨w.heap.size, 0, none⟩ = some (.slice (aL 0) (s.st 0).length (cL 0)) := hR.r0.cell (o := 0) rfl
      have u1 : wf.cell? ⟨w.heap.size, 1, none⟩ = some (.slice (aL 1) (s.st 1).length (cL 1)) := hR.r0.cell (o := 1) rfl
      have u2 : wf.cell? ⟨w.heap.size, 2, none⟩ = some (.slice (aL 2) (s.st 2).length (cL 2)) := hR.r0.cell (o := 2) rfl
      have u3 : wf.cell? ⟨w.heap.size, 3, none⟩ = some (.slice (aL 3) (s.st 3).length (cL 3)) := hR.r0.cell (o := 3) rfl
      have v0 : wf.cell? ⟨w.heap.size + 1, 0, none⟩ = some (.int .i64 (s.le 0 : Int)) := hR.r1.cell (o := 0) rfl
      have v1 : wf.cell? ⟨w.heap.size + 1, 1, none⟩ = some (.int .i64 (s.le 1 : Int)) := hR.r1.cell (o := 1) rfl
      have v2 : wf.cell? ⟨w.heap.size + 1, 2, none⟩ = some (.int .i64 (s.le 2 : Int)) := hR.r1.cell (o := 2) rfl
      have v3 : wf.cell? ⟨w.heap.size + 1, 3, none⟩ = some (.int .i64 (s.le 3 : Int)) := hR.r1.cell (o := 3) rfl
      have hfin := Lib.hid (show post (.returned (.tuple #[.agg (sls s aL cL).toArray, .agg (i4s s.le).toArray])) wf.drew by rw [← hpost.out]; exact ⟨aL, cL, rfl, hR.heap (Below.refl _ _).drew⟩)
      simp only [put4] at hwf
      replace hwf := Lib.hid hwf
      replace u0 := Lib.hid u0
      replace u1 := Lib.hid u1
      replace u2 := Lib.hid u2
      replace u3 := Lib.hid u3
      replace v0 := Lib.hid v0
      replace v1 := Lib.hid v1
      replace v2 := Lib.hid v2
      replace v3 := Lib.hid v3
      clear hL hR
      go_wp2_with fail
      go_region
      all_goals
        rw [← hwf.out]
        clear z0 z1 z2 z3 y0 y1 y2 y3 r0 r1 r2 r3 s0 s1 s2 s3 m0 m1 m2 m3 n0 n1 n2 n3
        go_wp2_with fail
        exact bodyPost_ret (v := .tuple #[.agg (sls s aL cL).toArray, .agg (i4s s.le).toArray]) (by simp [results, Try.results33, go_sem, sls, slv, i4s, u0.out, u1.out, u2.out, u3.out, v0.out, v1.out, v2.out, v3.out]) rfl hfin.out
end Go.Proofs.Ytjmdibgncaljaaa
