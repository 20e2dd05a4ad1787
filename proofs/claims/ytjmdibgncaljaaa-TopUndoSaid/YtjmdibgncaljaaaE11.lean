/- The reference's device: fail, may, counted, Is, Arm. The reference's device: Words. The reference's device: value, Load, Arm. The reference's device: put, Store, CAS. The reference's device: persist. The reference's device: WriteBack, Fence. The reference's device: Flush. The reference's device: Dirty. The reference's device: Content. The reference's device: Content (the walk), Current. The reference's device: New, Current. -/
import Derived.Test.YtjmdibgncaljaaaD3
import Derived.Test.YtjmdibgncaljaaaD11
import Derived.Test.YtjmdibgncaljaaaD16
import Derived.Deep.DeepCutAuto
import Derived.IntWalk
import Derived.BigRegion
import Derived.Deep.RegionLaw
/-! The reference's device: fail, may, counted, Is, Arm. -/
namespace Go.Proofs.Ytjmdibgncaljaaa.Dev
open Go.RowKit Go.Maps
variable {w : World} {F : Own} {o h T : Nat} {R : Dv}

theorem refCells_setErr (lb lc : Nat) (ns : Nat → Value) (R : Dv) (t e : Nat) (ht : t < 8) (hl : R.errs.length = 8) : refCells lb lc ns { R with errs := R.errs.set t e } = (refCells lb lc ns R).set (9 + t) (.int .i64 (e : Int)) := by
  have g : ∀ j, (R.errs.set t e).getD j 0 = if j = t then e else R.errs.getD j 0 := fun j => getD_set _ _ _ _ _ (by omega)
  unfold refCells
  simp only [g]
  match t, ht with
  | 0, _ | 1, _ | 2, _ | 3, _ | 4, _ | 5, _ | 6, _ | 7, _ => rfl
theorem err_lt (hk : R.Ok T) (t : Nat) : R.errs.getD t 0 ≤ 3 := by
  by_cases ht : t < 8
  · have := hk.ev _ (mem_getD 0 (show t < R.errs.length by rw [hk.el]; exact ht)); omega
  · rw [List.getD, List.getElem?_eq_none (by rw [hk.el]; omega)]; show (0 : Nat) ≤ 3; omega

theorem refCells_off (lb lc : Nat) (ns : Nat → Value) (R : Dv) : (refCells lb lc ns R)[18]? = some (.bool R.off) := rfl
theorem refCells_left (lb lc : Nat) (ns : Nat → Value) (R : Dv) : (refCells lb lc ns R)[17]? = some (.int .i64 R.left) := rfl
theorem refCells_lines (lb lc : Nat) (ns : Nat → Value) (R : Dv) : (refCells lb lc ns R)[0]? = some (.slice (some ⟨lb, 0, none⟩) R.lines.length lc) := rfl
end Go.Proofs.Ytjmdibgncaljaaa.Dev

/-! The reference's device: Words. -/
namespace Go.Proofs.Ytjmdibgncaljaaa.Dev
open Go.RowKit Go.Maps
variable {w : World} {F : Own} {o h T : Nat} {R : Dv}

def aggW (ws : List Nat) : Value := .agg #[.int .u64 ((wat ws 0 : Nat) : Int), .int .u64 ((wat ws 1 : Nat) : Int), .int .u64 ((wat ws 2 : Nat) : Int), .int .u64 ((wat ws 3 : Nat) : Int), .int .u64 ((wat ws 4 : Nat) : Int), .int .u64 ((wat ws 5 : Nat) : Int), .int .u64 ((wat ws 6 : Nat) : Int), .int .u64 ((wat ws 7 : Nat) : Int)]
def cellsW (ws : List Nat) : List Value := [.int .u64 ((wat ws 0 : Nat) : Int), .int .u64 ((wat ws 1 : Nat) : Int), .int .u64 ((wat ws 2 : Nat) : Int), .int .u64 ((wat ws 3 : Nat) : Int), .int .u64 ((wat ws 4 : Nat) : Int), .int .u64 ((wat ws 5 : Nat) : Int), .int .u64 ((wat ws 6 : Nat) : Int), .int .u64 ((wat ws 7 : Nat) : Int)]
theorem cellsW_get (ws : List Nat) (j : Nat) (h : j < 8) : (cellsW ws)[j]? = some (.int .u64 ((wat ws j : Nat) : Int)) := by
  match j, h with
  | 0, _ | 1, _ | 2, _ | 3, _ | 4, _ | 5, _ | 6, _ | 7, _ => rfl
theorem cellsW_set (ws : List Nat) (h : ws.length = 8) (j v : Nat) (hj : j < 8) : cellsW (ws.set j v) = (cellsW ws).set j (.int .u64 (v : Int)) := by
  have g : ∀ i, wat (ws.set j v) i = if i = j then v else wat ws i := fun i => getD_set _ _ _ _ _ (by omega)
  unfold cellsW
  simp only [g]
  match j, hj with
  | 0, _ | 1, _ | 2, _ | 3, _ | 4, _ | 5, _ | 6, _ | 7, _ => rfl
def WordsPost (w : World) (ws : List Nat) (e : Ending) (w' : World) : Prop := e = .returned (aggW ws) ∧ Below w.heap.size w w'
theorem three_new (w : World) (a z c : List Value) (A Z C : TypeId) : Has (((w.alloc (.cells a.toArray A)).alloc (.cells z.toArray Z)).alloc (.cells c.toArray C)) w.heap.size a A ∧ Has (((w.alloc (.cells a.toArray A)).alloc (.cells z.toArray Z)).alloc (.cells c.toArray C)) (w.heap.size + 1) z Z ∧
    Has (((w.alloc (.cells a.toArray A)).alloc (.cells z.toArray Z)).alloc (.cells c.toArray C)) (w.heap.size + 1 + 1) c C ∧ Below w.heap.size w (((w.alloc (.cells a.toArray A)).alloc (.cells z.toArray Z)).alloc (.cells c.toArray C)) := by
  have h1 := ((Has.new w a A).alloc (.cells z.toArray Z)).alloc (.cells c.toArray C)
  have h2 := (Has.new (w.alloc (.cells a.toArray A)) z Z).alloc (.cells c.toArray C)
  have h3 := Has.new ((w.alloc (.cells a.toArray A)).alloc (.cells z.toArray Z)) c C
  simp only [World.size_alloc] at h2 h3
  exact ⟨h1, h2, h3, (((Below.refl w.heap.size w).alloc (Nat.le_refl _) _).alloc (by simp) _).alloc (by simp; omega) _⟩
end Go.Proofs.Ytjmdibgncaljaaa.Dev

/-! The reference's device: value, Load, Arm. -/
namespace Go.Proofs.Ytjmdibgncaljaaa.Dev
open Go.RowKit Go.Maps
variable {w : World} {F : Own} {o h T : Nat} {R : Dv}

/-- The cells of one line, in the walk's own spelling. -/
structure LineCells (w : World) (lb i : Nat) (l : Ln) (v : Value) : Prop where
  c0 : w.cell? ⟨lb, i * 10, none⟩ = some (.int .u64 ((wat l.base 0 : Nat) : Int))
  c1 : w.cell? ⟨lb, i * 10 + 1, none⟩ = some (.int .u64 ((wat l.base 1 : Nat) : Int))
  c2 : w.cell? ⟨lb, i * 10 + 2, none⟩ = some (.int .u64 ((wat l.base 2 : Nat) : Int))
  c3 : w.cell? ⟨lb, i * 10 + 3, none⟩ = some (.int .u64 ((wat l.base 3 : Nat) : Int))
  c4 : w.cell? ⟨lb, i * 10 + 4, none⟩ = some (.int .u64 ((wat l.base 4 : Nat) : Int))
  c5 : w.cell? ⟨lb, i * 10 + 5, none⟩ = some (.int .u64 ((wat l.base 5 : Nat) : Int))
  c6 : w.cell? ⟨lb, i * 10 + 6, none⟩ = some (.int .u64 ((wat l.base 6 : Nat) : Int))
  c7 : w.cell? ⟨lb, i * 10 + 7, none⟩ = some (.int .u64 ((wat l.base 7 : Nat) : Int))
  c8 : w.cell? ⟨lb, i * 10 + 8, none⟩ = some v
  c9 : w.cell? ⟨lb, i * 10 + 9, none⟩ = some (.int .i64 (l.done : Int))
theorem LineCells.only {S : Nat → Prop} {w w' : World} {lb i : Nat} {l : Ln} {v : Value} (h : LineCells w lb i l v) (ho : Only S w w') (hs : ¬ S lb) : LineCells w' lb i l v :=
  ⟨ho.cell h.c0 hs, ho.cell h.c1 hs, ho.cell h.c2 hs, ho.cell h.c3 hs, ho.cell h.c4 hs, ho.cell h.c5 hs, ho.cell h.c6 hs, ho.cell h.c7 hs, ho.cell h.c8 hs, ho.cell h.c9 hs⟩
theorem index_agg0 (x0 x1 x2 x3 x4 x5 x6 x7 : Value) (w : World) : (Instr.index 185 (.agg #[x0, x1, x2, x3, x4, x5, x6, x7]) (.int .u64 0)).run Try.prog w = .ok x0 w := by kernel_rfl
theorem index_agg1 (x0 x1 x2 x3 x4 x5 x6 x7 : Value) (w : World) : (Instr.index 185 (.agg #[x0, x1, x2, x3, x4, x5, x6, x7]) (.int .u64 1)).run Try.prog w = .ok x1 w := by kernel_rfl
theorem index_agg2 (x0 x1 x2 x3 x4 x5 x6 x7 : Value) (w : World) : (Instr.index 185 (.agg #[x0, x1, x2, x3, x4, x5, x6, x7]) (.int .u64 2)).run Try.prog w = .ok x2 w := by kernel_rfl
theorem index_agg3 (x0 x1 x2 x3 x4 x5 x6 x7 : Value) (w : World) : (Instr.index 185 (.agg #[x0, x1, x2, x3, x4, x5, x6, x7]) (.int .u64 3)).run Try.prog w = .ok x3 w := by kernel_rfl
theorem index_agg4 (x0 x1 x2 x3 x4 x5 x6 x7 : Value) (w : World) : (Instr.index 185 (.agg #[x0, x1, x2, x3, x4, x5, x6, x7]) (.int .u64 4)).run Try.prog w = .ok x4 w := by kernel_rfl
theorem index_agg5 (x0 x1 x2 x3 x4 x5 x6 x7 : Value) (w : World) : (Instr.index 185 (.agg #[x0, x1, x2, x3, x4, x5, x6, x7]) (.int .u64 5)).run Try.prog w = .ok x5 w := by kernel_rfl
theorem index_agg6 (x0 x1 x2 x3 x4 x5 x6 x7 : Value) (w : World) : (Instr.index 185 (.agg #[x0, x1, x2, x3, x4, x5, x6, x7]) (.int .u64 6)).run Try.prog w = .ok x6 w := by kernel_rfl
theorem index_agg7 (x0 x1 x2 x3 x4 x5 x6 x7 : Value) (w : World) : (Instr.index 185 (.agg #[x0, x1, x2, x3, x4, x5, x6, x7]) (.int .u64 7)).run Try.prog w = .ok x7 w := by kernel_rfl
theorem index_agg (ws : List Nat) (j : Nat) (hj : j < 8) (w : World) : (Instr.index 185 (aggW ws) (.int .u64 (j : Int))).run Try.prog w = .ok (.int .u64 ((wat ws j : Nat) : Int)) w := by
  match j, hj with
  | 0, _ => exact index_agg0 _ _ _ _ _ _ _ _ w
  | 1, _ => exact index_agg1 _ _ _ _ _ _ _ _ w
  | 2, _ => exact index_agg2 _ _ _ _ _ _ _ _ w
  | 3, _ => exact index_agg3 _ _ _ _ _ _ _ _ w
  | 4, _ => exact index_agg4 _ _ _ _ _ _ _ _ w
  | 5, _ => exact index_agg5 _ _ _ _ _ _ _ _ w
  | 6, _ => exact index_agg6 _ _ _ _ _ _ _ _ w
  | 7, _ => exact index_agg7 _ _ _ _ _ _ _ _ w

end Go.Proofs.Ytjmdibgncaljaaa.Dev

/-! The reference's device: put, Store, CAS. -/
namespace Go.Proofs.Ytjmdibgncaljaaa.Dev
open Go.RowKit Go.Maps
variable {w : World} {F : Own} {o h T : Nat} {R : Dv}

theorem bcell2 {w w' : World} (hB : Below w.heap.size w w') {a : Addr} {v : Value} (h : w.cell? a = some v) : w'.cell? a = some v := by
  have hlt := World.block_lt_of_cell? _ _ h
  exact (hB.cell (p := a) hlt).trans h
end Go.Proofs.Ytjmdibgncaljaaa.Dev

namespace Go.Proofs.Ytjmdibgncaljaaa.Dev
open Go.RowKit Go.Maps
variable {w : World} {F : Own} {o h T : Nat} {R : Dv}

theorem rd_zero (w : World) (xa : Option Addr) (c : Nat) : Rd w (.slice xa 0 c) 0 [] := ⟨xa, c, rfl, .inl ⟨rfl, rfl⟩⟩
/-- The line's block after persist: base, history, done. -/
def lineSet (cs : List Value) (i : Nat) (ws : List Nat) (v : Value) (d : Int) : List Value :=
  ((((((((((cs.set (i * 10) (.int .u64 ((wat ws 0 : Nat) : Int))).set (i * 10 + 1) (.int .u64 ((wat ws 1 : Nat) : Int))).set (i * 10 + 2) (.int .u64 ((wat ws 2 : Nat) : Int))).set (i * 10 + 3) (.int .u64 ((wat ws 3 : Nat) : Int))).set (i * 10 + 4) (.int .u64 ((wat ws 4 : Nat) : Int))).set (i * 10 + 5) (.int .u64 ((wat ws 5 : Nat) : Int))).set (i * 10 + 6) (.int .u64 ((wat ws 6 : Nat) : Int))).set (i * 10 + 7) (.int .u64 ((wat ws 7 : Nat) : Int))).set (i * 10 + 8) v).set (i * 10 + 9) (.int .i64 d))
theorem lineSet_far (cs : List Value) (i : Nat) (ws : List Nat) (v : Value) (d : Int) (q : Nat) (h : q < i * 10 ∨ i * 10 + 10 ≤ q) : (lineSet cs i ws v d)[q]? = cs[q]? := by
  unfold lineSet
  rw [List.getElem?_set_ne (by omega), List.getElem?_set_ne (by omega), List.getElem?_set_ne (by omega), List.getElem?_set_ne (by omega), List.getElem?_set_ne (by omega), List.getElem?_set_ne (by omega), List.getElem?_set_ne (by omega), List.getElem?_set_ne (by omega), List.getElem?_set_ne (by omega), List.getElem?_set_ne (by omega)]
theorem lineSet_base (cs : List Value) (i : Nat) (ws : List Nat) (v : Value) (d : Int) (hl : i * 10 + 10 ≤ cs.length) (q : Nat) (hq : q < 8) : (lineSet cs i ws v d)[i * 10 + q]? = some (.int .u64 ((wat ws q : Nat) : Int)) := by
  unfold lineSet
  match q, hq with
  | 0, _ => rw [List.getElem?_set_ne (by omega), List.getElem?_set_ne (by omega), List.getElem?_set_ne (by omega), List.getElem?_set_ne (by omega), List.getElem?_set_ne (by omega), List.getElem?_set_ne (by omega), List.getElem?_set_ne (by omega), List.getElem?_set_ne (by omega), List.getElem?_set_ne (by omega)]; exact List.getElem?_set_self (by omega)
  | 1, _ => rw [List.getElem?_set_ne (by omega), List.getElem?_set_ne (by omega), List.getElem?_set_ne (by omega), List.getElem?_set_ne (by omega), List.getElem?_set_ne (by omega), List.getElem?_set_ne (by omega), List.getElem?_set_ne (by omega), List.getElem?_set_ne (by omega)]; exact List.getElem?_set_self (by simp; omega)
  | 2, _ => rw [List.getElem?_set_ne (by omega), List.getElem?_set_ne (by omega), List.getElem?_set_ne (by omega), List.getElem?_set_ne (by omega), List.getElem?_set_ne (by omega), List.getElem?_set_ne (by omega), List.getElem?_set_ne (by omega)]; exact List.getElem?_set_self (by simp; omega)
  | 3, _ => rw [List.getElem?_set_ne (by omega), List.getElem?_set_ne (by omega), List.getElem?_set_ne (by omega), List.getElem?_set_ne (by omega), List.getElem?_set_ne (by omega), List.getElem?_set_ne (by omega)]; exact List.getElem?_set_self (by simp; omega)
  | 4, _ => rw [List.getElem?_set_ne (by omega), List.getElem?_set_ne (by omega), List.getElem?_set_ne (by omega), List.getElem?_set_ne (by omega), List.getElem?_set_ne (by omega)]; exact List.getElem?_set_self (by simp; omega)
  | 5, _ => rw [List.getElem?_set_ne (by omega), List.getElem?_set_ne (by omega), List.getElem?_set_ne (by omega), List.getElem?_set_ne (by omega)]; exact List.getElem?_set_self (by simp; omega)
  | 6, _ => rw [List.getElem?_set_ne (by omega), List.getElem?_set_ne (by omega), List.getElem?_set_ne (by omega)]; exact List.getElem?_set_self (by simp; omega)
  | 7, _ => rw [List.getElem?_set_ne (by omega), List.getElem?_set_ne (by omega)]; exact List.getElem?_set_self (by simp; omega)
theorem lineSet_8 (cs : List Value) (i : Nat) (ws : List Nat) (v : Value) (d : Int) (hl : i * 10 + 10 ≤ cs.length) : (lineSet cs i ws v d)[i * 10 + 8]? = some v := by
  unfold lineSet; rw [List.getElem?_set_ne (by omega)]; exact List.getElem?_set_self (by simp; omega)
theorem lineSet_9 (cs : List Value) (i : Nat) (ws : List Nat) (v : Value) (d : Int) (hl : i * 10 + 10 ≤ cs.length) : (lineSet cs i ws v d)[i * 10 + 9]? = some (.int .i64 d) := by
  unfold lineSet; exact List.getElem?_set_self (by simp; omega)
theorem lineSet_len (cs : List Value) (i : Nat) (ws : List Nat) (v : Value) (d : Int) : (lineSet cs i ws v d).length = cs.length := by simp [lineSet]
/-- The words are stored into a line's base. -/
def setBase (w : World) (lb i : Nat) (ws : List Nat) : World :=
  ((((((((w.setCell ⟨lb, i * 10, none⟩ (.int .u64 ((wat ws 0 : Nat) : Int))).setCell ⟨lb, i * 10 + 1, none⟩ (.int .u64 ((wat ws 1 : Nat) : Int))).setCell ⟨lb, i * 10 + 2, none⟩ (.int .u64 ((wat ws 2 : Nat) : Int))).setCell ⟨lb, i * 10 + 3, none⟩ (.int .u64 ((wat ws 3 : Nat) : Int))).setCell ⟨lb, i * 10 + 4, none⟩ (.int .u64 ((wat ws 4 : Nat) : Int))).setCell ⟨lb, i * 10 + 5, none⟩ (.int .u64 ((wat ws 5 : Nat) : Int))).setCell ⟨lb, i * 10 + 6, none⟩ (.int .u64 ((wat ws 6 : Nat) : Int))).setCell ⟨lb, i * 10 + 7, none⟩ (.int .u64 ((wat ws 7 : Nat) : Int)))
def baseSet (cs : List Value) (i : Nat) (ws : List Nat) : List Value :=
  ((((((((cs.set (i * 10) (.int .u64 ((wat ws 0 : Nat) : Int))).set (i * 10 + 1) (.int .u64 ((wat ws 1 : Nat) : Int))).set (i * 10 + 2) (.int .u64 ((wat ws 2 : Nat) : Int))).set (i * 10 + 3) (.int .u64 ((wat ws 3 : Nat) : Int))).set (i * 10 + 4) (.int .u64 ((wat ws 4 : Nat) : Int))).set (i * 10 + 5) (.int .u64 ((wat ws 5 : Nat) : Int))).set (i * 10 + 6) (.int .u64 ((wat ws 6 : Nat) : Int))).set (i * 10 + 7) (.int .u64 ((wat ws 7 : Nat) : Int)))
theorem setBase_only (w : World) (lb i : Nat) (ws : List Nat) : Only (fun k => k = lb) w (setBase w lb i ws) :=
  (((((((Only.setAt w lb _ _).trans (Only.setAt _ lb _ _)).trans (Only.setAt _ lb _ _)).trans (Only.setAt _ lb _ _)).trans (Only.setAt _ lb _ _)).trans (Only.setAt _ lb _ _)).trans (Only.setAt _ lb _ _)).trans (Only.setAt _ lb _ _)
theorem baseSet_89 (cs : List Value) (i : Nat) (ws : List Nat) (q : Nat) (h : q = 8 ∨ q = 9) : (baseSet cs i ws)[i * 10 + q]? = cs[i * 10 + q]? := by
  unfold baseSet
  rw [List.getElem?_set_ne (by omega), List.getElem?_set_ne (by omega), List.getElem?_set_ne (by omega), List.getElem?_set_ne (by omega), List.getElem?_set_ne (by omega), List.getElem?_set_ne (by omega), List.getElem?_set_ne (by omega), List.getElem?_set_ne (by omega)]
theorem setBase_size (w : World) (lb i : Nat) (ws : List Nat) : (setBase w lb i ws).heap.size = w.heap.size := by simp [setBase]

end Go.Proofs.Ytjmdibgncaljaaa.Dev

namespace Go.Proofs.Ytjmdibgncaljaaa.Dev
open Go.RowKit Go.Maps
variable {w : World} {F : Own} {o h T : Nat} {R : Dv}

/-! ### the fence -/
def fenM (Q : Dv) (ns : List (Nat × Nat)) (i : Nat) : Dv := { Q with lines := (ns.take i).foldl fenceS Q.lines }
theorem fenM_len (hQ : R.Ok T) {t : Nat} (ht : t < 8) (i : Nat) : (fenM R (R.notes.getD t []) i).lines.length = R.lines.length :=
  (fold_fence ((R.notes.getD t []).take i) R.lines (((hQ.nd t ht)).sublist (List.Sublist.map _ (List.take_sublist _ _))) (fun x hx => (hQ.no t ht x (List.mem_of_mem_take hx)).1)).1
theorem fenM_line (hQ : R.Ok T) {t : Nat} (ht : t < 8) {i : Nat} {x : Nat × Nat} (hx : (R.notes.getD t [])[i]? = some x) : (fenM R (R.notes.getD t []) i).line x.1 = R.line x.1 := by
  have h1 := (fold_fence ((R.notes.getD t []).take i) R.lines (((hQ.nd t ht)).sublist (List.Sublist.map _ (List.take_sublist _ _))) (fun x hx => (hQ.no t ht x (List.mem_of_mem_take hx)).1)).2 x.1 (hQ.no t ht x (List.mem_of_getElem? hx)).1
  have hnone : noteF ((R.notes.getD t []).take i) x.1 = none := by
    unfold noteF
    rw [List.find?_eq_none.2]; rfl
    intro y hy hd
    simp only [decide_eq_true_eq] at hd
    obtain ⟨j, hj, rfl⟩ := List.getElem_of_mem hy
    have hji : j < i := by rw [List.length_take] at hj; omega
    have hjn : j < (R.notes.getD t []).length := by rw [List.length_take] at hj; omega
    have h2 : ((R.notes.getD t []).map Prod.fst)[j]? = ((R.notes.getD t []).map Prod.fst)[i]? := by
      rw [List.getElem?_map, List.getElem?_map, hx, List.getElem?_eq_getElem hjn]
      rw [List.getElem_take] at hd
      exact congrArg some hd
    have h3 := (List.getElem?_inj (by simpa using hjn) (hQ.nd t ht)).1 h2
    omega
  rw [hnone] at h1
  exact h1
theorem fenM_succ (hQ : R.Ok T) {t : Nat} (ht : t < 8) {i : Nat} {x : Nat × Nat} (hx : (R.notes.getD t [])[i]? = some x) :
    fenM R (R.notes.getD t []) (i + 1) = (fenM R (R.notes.getD t []) i).setLine x.1 (fenL (R.line x.1) x.2) := by
  have hl := fenM_line hQ ht hx
  have e : (R.notes.getD t []).take (i + 1) = (R.notes.getD t []).take i ++ [x] := by rw [List.take_add_one, hx]; rfl
  unfold Dv.line at hl
  unfold fenM Dv.setLine at *
  rw [e, List.foldl_append]
  simp only [List.foldl_cons, List.foldl_nil]
  rw [fenceS_eq, hl]; rfl
theorem fenM_end (R : Dv) (t : Nat) : ({ fenM R (R.notes.getD t []) (R.notes.getD t []).length with notes := R.notes.set t [] } : Dv) = fencedP R t := by
  unfold fenM fencedP; rw [List.take_length]
theorem noteCells_get : ∀ (ns : List (Nat × Nat)) (i : Nat) (p : Nat × Nat), ns[i]? = some p → (noteCells ns)[i * 2]? = some (.int .i64 p.1) ∧ (noteCells ns)[i * 2 + 1]? = some (.int .i64 p.2)
  | q :: ns, 0, p, h => by simp at h; subst h; exact ⟨rfl, rfl⟩
  | q :: ns, i + 1, p, h => by
    have := noteCells_get ns i p (by simpa using h)
    have e1 : (i + 1) * 2 = i * 2 + 2 := by omega
    rw [e1]
    exact this
  | [], _, _, h => by simp at h
theorem noteCells_len (ws : List (Nat × Nat)) : (noteCells ws).length = ws.length * 2 := by
  induction ws with
  | nil => rfl
  | cons s l ih => simp only [noteCells, List.flatMap_cons, List.length_append, List.length_cons] at *; rw [ih]; show 2 + _ = _; omega
theorem noteCells_snoc (ws : List (Nat × Nat)) (p : Nat × Nat) : noteCells (ws ++ [p]) = noteCells ws ++ [.int .i64 p.1, .int .i64 p.2] := by simp [noteCells]
theorem refCells_setNote (lb lc : Nat) (ns : Nat → Value) (R : Dv) (t : Nat) (l : List (List (Nat × Nat))) (v : Value) (ht : t < 8) : refCells lb lc (fun j => if j = t then v else ns j) { R with notes := l } = (refCells lb lc ns R).set (1 + t) v := by
  unfold refCells
  match t, ht with
  | 0, _ | 1, _ | 2, _ | 3, _ | 4, _ | 5, _ | 6, _ | 7, _ => rfl
end Go.Proofs.Ytjmdibgncaljaaa.Dev

namespace Go.Proofs.Ytjmdibgncaljaaa.Dev
open Go.RowKit Go.Maps
variable {w : World} {F : Own} {o h T : Nat} {R : Dv}

theorem noteCells_one (l : List (Nat × Nat)) : ∀ u ∈ noteCells l, u.oneCell' = true := by
  intro u hu; unfold noteCells at hu; simp only [List.mem_flatMap] at hu; obtain ⟨p, _, hu⟩ := hu
  simp only [List.mem_cons, List.not_mem_nil, or_false] at hu
  rcases hu with rfl | rfl <;> rfl
def keptN (ns : List (Nat × Nat)) (l k : Nat) : List (Nat × Nat) := (ns.take k).filter (fun x => decide (x.1 ≠ l))
theorem keptN_succ (ns : List (Nat × Nat)) (l k : Nat) (x : Nat × Nat) (h : ns[k]? = some x) : keptN ns l (k + 1) = if x.1 = l then keptN ns l k else keptN ns l k ++ [x] := by
  unfold keptN
  rw [List.take_add_one, h, Option.toList_some, List.filter_append]
  by_cases e : x.1 = l
  · rw [if_pos e]; simp [e]
  · rw [if_neg e]; simp [e]
theorem keptN_all (ns : List (Nat × Nat)) (l c : Nat) : keptN ns l ns.length ++ [(l, c)] = noteL ns l c := by unfold keptN noteL; rw [List.take_length]
theorem keptN_len (ns : List (Nat × Nat)) (l k : Nat) : (keptN ns l k).length ≤ k := by
  unfold keptN; exact Nat.le_trans (List.length_filter_le _ _) (by rw [List.length_take]; omega)
end Go.Proofs.Ytjmdibgncaljaaa.Dev

/-! The reference's device: Dirty. -/
namespace Go.Proofs.Ytjmdibgncaljaaa.Dev
open Go.RowKit Go.Maps
variable {w : World} {F : Own} {o h T : Nat} {R : Dv}

/-- A slice that grew behind a world. -/
structure Grow (wq wr : World) (E : TypeId) (a : Option Addr) (n c : Nat) (xs : List Value) : Prop where
  own : wr.ownsRow 0 E 1 (.slice a n c) n xs
  b : Below wq.heap.size wq wr
  fr : ∀ j, Value.ownBlock (.slice a n c) = some j → wq.heap.size ≤ j
theorem Grow.alloc {wq wr : World} {E : TypeId} {a : Option Addr} {n c : Nat} {xs : List Value} (h : Grow wq wr E a n c xs) (x : Obj) : Grow wq (wr.alloc x) E a n c xs := ⟨h.own.alloc _, h.b.alloc h.b.size _, h.fr⟩
theorem Grow.below {wq wr w' : World} {E : TypeId} {a : Option Addr} {n c : Nat} {xs : List Value} (h : Grow wq wr E a n c xs) (hb : Below wr.heap.size wr w') : Grow wq w' E a n c xs :=
  ⟨ownsRow_only h.own (Only.of_below hb) (by intro k hk; exact Nat.not_le.2 (ownsRow_lt h.own hk)), h.b.trans (hb.mono h.b.size), h.fr⟩
theorem Grow.drew {wq wr : World} {E : TypeId} {a : Option Addr} {n c : Nat} {xs : List Value} (h : Grow wq wr E a n c xs) : Grow wq wr.drew E a n c xs := h.below (below_drewN (Below.refl _ _) 1)
theorem Grow.app {wq wr w' : World} {E : TypeId} {a a' : Option Addr} {n c c' : Nat} {xs : List Value} {v : Value} (h : Grow wq wr E a n c xs) (own : w'.ownsRow 0 E 1 (.slice a' (n + 1) c') (n + 1) (xs ++ [v]))
    (only : Only (fun k => Value.ownBlock (.slice a n c) = some k) wr w') (fresh : ∀ k, Value.ownBlock (.slice a' (n + 1) c') = some k → Value.ownBlock (.slice a n c) = some k ∨ wr.heap.size ≤ k) : Grow wq w' E a' (n + 1) c' (xs ++ [v]) := by
  have hs := h.b.size
  refine ⟨own, h.b.trans (only.below (B := wq.heap.size) hs (fun k _ e => h.fr k e)), ?_⟩
  intro j hj
  rcases fresh j hj with h1 | h1
  · exact h.fr j h1
  · omega
theorem Grow.empty (w : World) (E : TypeId) : Grow w (w.alloc (.cells #[] E)) E (some ⟨w.heap.size, 0, none⟩) 0 0 [] :=
  ⟨own_empty w E 1, (Below.refl _ _).alloc (Nat.le_refl _) _, fun j hj => by cases hj; exact Nat.le_refl _⟩
end Go.Proofs.Ytjmdibgncaljaaa.Dev

/-! The reference's device: Content. -/
namespace Go.Proofs.Ytjmdibgncaljaaa.Dev
open Go.RowKit Go.Maps
variable {w : World} {F : Own} {o h T : Nat} {R : Dv}

/-! ### the bytes of words as an appended list -/
def byteTo (x b : Nat) : List Nat := (List.range b).map fun j => x / 256 ^ j % 256
theorem byteTo_succ (x b : Nat) : byteTo x (b + 1) = byteTo x b ++ [x / 256 ^ b % 256] := by unfold byteTo; rw [List.range_succ, List.map_append]; rfl
theorem byteTo_len (x b : Nat) : (byteTo x b).length = b := by simp [byteTo]
theorem pow_bytes (j : Nat) : 2 ^ (j * 8) = 256 ^ j := by rw [Nat.mul_comm, Nat.pow_mul]
theorem bytesL_get2 (ws : List Nat) (i : Nat) : (bytesL ws)[i]? = if i < ws.length * 8 then some (ws.getD (i / 8) 0 / 2 ^ (i % 8 * 8) % 256) else none := by
  by_cases h : i < ws.length * 8
  · rw [if_pos h, bytesL_get ws i h]
  · rw [if_neg h, List.getElem?_eq_none (by rw [bytesL_len]; omega)]
theorem byteTo_get (x b i : Nat) : (byteTo x b)[i]? = if i < b then some (x / 256 ^ i % 256) else none := by
  by_cases h : i < b
  · rw [if_pos h]; unfold byteTo; rw [List.getElem?_map, List.getElem?_range h]; rfl
  · rw [if_neg h, List.getElem?_eq_none (by rw [byteTo_len]; omega)]
theorem bytesL_snoc (ws : List Nat) (x : Nat) : bytesL (ws ++ [x]) = bytesL ws ++ byteTo x 8 := by
  apply List.ext_getElem?
  intro i
  rw [bytesL_get2, List.getElem?_append, bytesL_len]
  by_cases h : i < ws.length * 8
  · rw [if_pos h, bytesL_get2, if_pos h, if_pos (by simp; omega)]
    simp only [List.getD_eq_getElem?_getD]; rw [List.getElem?_append_left (by omega)]
  · rw [if_neg h, byteTo_get]
    by_cases h2 : i < ws.length * 8 + 8
    · rw [if_pos (by simp; omega), if_pos (by omega)]
      have e1 : i / 8 = ws.length := by omega
      have e2 : i - ws.length * 8 = i % 8 := by omega
      rw [e1, e2, pow_bytes]; simp
    · rw [if_neg (by simp; omega), if_neg (by omega)]
theorem bytesL_nil : bytesL [] = [] := rfl
theorem u8s_snoc (l : List Nat) (v : Nat) : u8s (l ++ [v]) = u8s l ++ [.int .u8 (v : Int)] := by simp [u8s]

/-! ### the counts that Content is given -/
def kOf (R : Dv) (ks : List Nat) (l : Nat) : Nat := if 0 < (R.line l).hist.length then (if (dirtyTo R l).length < ks.length then ks.getD (dirtyTo R l).length 0 else 0) else 0
def conTo (R : Dv) (ks : List Nat) (n : Nat) : List Nat := (List.range n).flatMap fun l => wordsL (R.line l) (kOf R ks l)
theorem conTo_succ (R : Dv) (ks : List Nat) (n : Nat) : conTo R ks (n + 1) = conTo R ks n ++ wordsL (R.line n) (kOf R ks n) := by
  unfold conTo; rw [List.range_succ, List.flatMap_append]; simp
theorem conTo_all (R : Dv) (ks : List Nat) : conTo R ks R.lines.length = crashW R (kOf R ks) := by
  unfold conTo crashW crashLs; rw [List.flatMap_def, List.flatMap_def, List.map_map]; rfl
theorem kOf_nil (R : Dv) : crashW R (kOf R []) = R.perW := by
  rw [← crashW_zero]; exact crashW_congr _ _ _ (fun l _ => by unfold kOf; simp)
def curK (R : Dv) : List Nat := (dirtyL R).map fun l => (R.line l).hist.length
theorem kOf_cur (R : Dv) : crashW R (kOf R (curK R)) = R.curW := by
  rw [← crashW_all]
  refine crashW_congr _ _ _ (fun l hl => ?_)
  by_cases hc : 0 < (R.line l).hist.length
  · have h1 := dirty_lt hl hc
    have h2 := dirty_place hl hc
    unfold kOf curK
    rw [if_pos hc, List.length_map, if_pos h1, getD_of 0 (by rw [List.getElem?_map, h2]; rfl)]
  · have e0 : (R.line l).hist = [] := List.eq_nil_of_length_eq_zero (by omega)
    unfold wordsL; rw [e0]; simp
theorem conTo_take (R : Dv) (ks : List Nat) (l j : Nat) (hj : j < (wordsL (R.line l) (kOf R ks l)).length) :
    conTo R ks l ++ (wordsL (R.line l) (kOf R ks l)).take (j + 1) = (conTo R ks l ++ (wordsL (R.line l) (kOf R ks l)).take j) ++ [wat (wordsL (R.line l) (kOf R ks l)) j] := by
  rw [List.take_add_one, get_of_lt 0 hj, Option.toList_some, List.append_assoc]; rfl
theorem dirtyTo_next (R : Dv) (l : Nat) : (dirtyTo R (l + 1)).length = if 0 < (R.line l).hist.length then (dirtyTo R l).length + 1 else (dirtyTo R l).length := by
  rw [dirtyTo_succ]; split <;> simp

/-- What Content returns. -/
def NewBytes (w : World) (xs : List Nat) (e : Ending) (w' : World) : Prop := ∃ a c, e = .returned (.slice a xs.length c) ∧ Grow w w' 5 a xs.length c (u8s xs)
end Go.Proofs.Ytjmdibgncaljaaa.Dev

/-! The reference's device: Content (the walk), Current. -/
namespace Go.Proofs.Ytjmdibgncaljaaa.Dev
open Go.RowKit Go.Maps
variable {w : World} {F : Own} {o h T : Nat} {R : Dv}

theorem infoByte : (Try.prog.info? 5).map (fun i => (i.zero, i.size, i.bytes)) = some (some (.int .u8 0), 1, 1) := by kernel_rfl
theorem index_ag0 (x0 x1 x2 x3 x4 x5 x6 x7 : Value) (w : World) : (Instr.index 185 (.agg #[x0, x1, x2, x3, x4, x5, x6, x7]) (.int .i64 0)).run Try.prog w = .ok x0 w := by kernel_rfl
theorem index_ag1 (x0 x1 x2 x3 x4 x5 x6 x7 : Value) (w : World) : (Instr.index 185 (.agg #[x0, x1, x2, x3, x4, x5, x6, x7]) (.int .i64 1)).run Try.prog w = .ok x1 w := by kernel_rfl
theorem index_ag2 (x0 x1 x2 x3 x4 x5 x6 x7 : Value) (w : World) : (Instr.index 185 (.agg #[x0, x1, x2, x3, x4, x5, x6, x7]) (.int .i64 2)).run Try.prog w = .ok x2 w := by kernel_rfl
theorem index_ag3 (x0 x1 x2 x3 x4 x5 x6 x7 : Value) (w : World) : (Instr.index 185 (.agg #[x0, x1, x2, x3, x4, x5, x6, x7]) (.int .i64 3)).run Try.prog w = .ok x3 w := by kernel_rfl
theorem index_ag4 (x0 x1 x2 x3 x4 x5 x6 x7 : Value) (w : World) : (Instr.index 185 (.agg #[x0, x1, x2, x3, x4, x5, x6, x7]) (.int .i64 4)).run Try.prog w = .ok x4 w := by kernel_rfl
theorem index_ag5 (x0 x1 x2 x3 x4 x5 x6 x7 : Value) (w : World) : (Instr.index 185 (.agg #[x0, x1, x2, x3, x4, x5, x6, x7]) (.int .i64 5)).run Try.prog w = .ok x5 w := by kernel_rfl
theorem index_ag6 (x0 x1 x2 x3 x4 x5 x6 x7 : Value) (w : World) : (Instr.index 185 (.agg #[x0, x1, x2, x3, x4, x5, x6, x7]) (.int .i64 6)).run Try.prog w = .ok x6 w := by kernel_rfl
theorem index_ag7 (x0 x1 x2 x3 x4 x5 x6 x7 : Value) (w : World) : (Instr.index 185 (.agg #[x0, x1, x2, x3, x4, x5, x6, x7]) (.int .i64 7)).run Try.prog w = .ok x7 w := by kernel_rfl
theorem index_aggI (ws : List Nat) (j : Nat) (hj : j < 8) (w : World) : (Instr.index 185 (aggW ws) (.int .i64 (j : Int))).run Try.prog w = .ok (.int .u64 ((wat ws j : Nat) : Int)) w := by
  match j, hj with
  | 0, _ => exact index_ag0 _ _ _ _ _ _ _ _ w
  | 1, _ => exact index_ag1 _ _ _ _ _ _ _ _ w
  | 2, _ => exact index_ag2 _ _ _ _ _ _ _ _ w
  | 3, _ => exact index_ag3 _ _ _ _ _ _ _ _ w
  | 4, _ => exact index_ag4 _ _ _ _ _ _ _ _ w
  | 5, _ => exact index_ag5 _ _ _ _ _ _ _ _ w
  | 6, _ => exact index_ag6 _ _ _ _ _ _ _ _ w
  | 7, _ => exact index_ag7 _ _ _ _ _ _ _ _ w
def rowC (l : Ln) (v : Value) : List Value := [.int .u64 ((wat l.base 0 : Nat) : Int), .int .u64 ((wat l.base 1 : Nat) : Int), .int .u64 ((wat l.base 2 : Nat) : Int), .int .u64 ((wat l.base 3 : Nat) : Int), .int .u64 ((wat l.base 4 : Nat) : Int), .int .u64 ((wat l.base 5 : Nat) : Int), .int .u64 ((wat l.base 6 : Nat) : Int), .int .u64 ((wat l.base 7 : Nat) : Int), v, .int .i64 (l.done : Int)]
theorem conTo_len (hok : R.Ok T) (ks : List Nat) (n : Nat) (hn : n ≤ R.lines.length) : (conTo R ks n).length = n * 8 := by
  induction n with
  | zero => rfl
  | succ n ih => rw [conTo_succ, List.length_append, ih (by omega), wordsL_len, (hok.ln n (by omega)).b]; omega
/-- The last of a word's bytes, and the next word. -/
theorem bytes_full (B : List Nat) (ws : List Nat) (x : Nat) (hB : B = bytesL ws) : B ++ byteTo x 8 = bytesL (ws ++ [x]) := by rw [hB, bytesL_snoc]

end Go.Proofs.Ytjmdibgncaljaaa.Dev

/-! The reference's device: New, Current. -/
namespace Go.Proofs.Ytjmdibgncaljaaa.Dev
open Go.RowKit Go.Maps
variable {w : World} {F : Own} {o h T : Nat} {R : Dv}

def zeroLn : Array Value := #[.int .u64 0, .int .u64 0, .int .u64 0, .int .u64 0, .int .u64 0, .int .u64 0, .int .u64 0, .int .u64 0, .slice none 0 0, .int .i64 0]
theorem curK_take (R : Dv) (j n : Nat) (h : (dirtyL R)[j]? = some n) : (curK R).take (j + 1) = (curK R).take j ++ [(R.line n).hist.length] := by
  unfold curK; rw [List.take_add_one, List.getElem?_map, h]; rfl
theorem curK_len (R : Dv) : (curK R).length = (dirtyL R).length := by simp [curK]
theorem kOf_curLe (R : Dv) (l : Nat) (hl : l < R.lines.length) : kOf R (curK R) l ≤ (R.line l).hist.length := by
  by_cases hc : 0 < (R.line l).hist.length
  · have h1 := dirty_lt hl hc
    have h2 := dirty_place hl hc
    unfold kOf
    rw [if_pos hc, curK_len, if_pos h1]
    unfold curK
    rw [getD_of 0 (by rw [List.getElem?_map, h2]; rfl)]
    exact Nat.le_refl _
  · unfold kOf; rw [if_neg hc]; omega
theorem NewBytes.up {w w1 : World} {xs : List Nat} {e : Ending} {w' : World} (hp : NewBytes w1 xs e w') (hb : Below w.heap.size w w1) : NewBytes w xs e w' := by
  obtain ⟨a, c, h1, h2⟩ := hp
  exact ⟨a, c, h1, h2.own, hb.trans (h2.b.mono hb.size), fun j hj => Nat.le_trans hb.size (h2.fr j hj)⟩
end Go.Proofs.Ytjmdibgncaljaaa.Dev
