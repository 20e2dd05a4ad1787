/- The events of acts. told, events. -/
import Derived.Test.YtjmdibgncaljaaaO17
namespace Go.Proofs.Ytjmdibgncaljaaa
open Go.RowKit

structure Ac where
  k : Nat
  t : Nat
  w : Nat
  v : Nat
  o : Nat
  n : Nat
def Ac.cells (a : Ac) : List Value := [.int .u8 (a.k : Int), .int .u8 (a.t : Int), .int .u8 (a.w : Int), .int .u8 (a.v : Int), .int .u8 (a.o : Int), .int .u8 (a.n : Int)]
structure Ac.Fit (a : Ac) : Prop where
  k : a.k < 256
  t : a.t < 256
  w : a.w < 256
  v : a.v < 256
  o : a.o < 256
  n : a.n < 256
def offP (w : Nat) : Nat := if w < 200 then 8 * (w % 36) else w
def Ac.ev (a : Ac) : Ev :=
  if a.k % 8 ≤ 2 then ⟨1, a.t % 3, offP a.w, a.v, 0, 0, 0, .slice none 0 0⟩
  else if a.k % 8 = 3 then ⟨2, a.t % 3, offP a.w, a.v, a.o % 4, 0, 0, .slice none 0 0⟩
  else if a.k % 8 ≤ 5 then ⟨3, a.t % 3, offP a.w, 0, 0, 0, 0, .slice none 0 0⟩
  else if a.k % 8 = 6 then ⟨4, a.t % 3, 0, 0, 0, 0, 0, .slice none 0 0⟩
  else ⟨5, 0, 0, 0, 0, a.w % 5, ((a.n % 4 : Nat) : Int), .slice none 0 0⟩
theorem offP_lt (w : Nat) (h : w < 256) : offP w < 512 := by unfold offP; split <;> omega

theorem offset_any (n : Nat) (h : n < 256) (w : World) : Calls Try.prog 36 #[.int .u8 n] w fun e w' => e = .returned (.int .u64 (offP n : Nat)) ∧ w = w' := by
  by_cases h2 : n < 200
  · have e : offP n = 8 * (n % 36) := by unfold offP; rw [if_pos h2]
    have hd : (n : Int) < 200 := by omega
    rw [e]
    clear e
    go_enter Try.func36, Try.ntmps36
    go_wp2
    go_ret
    exact ⟨ret1_eq (int_eq (by omega)), rfl⟩
  · have e : offP n = n := by unfold offP; rw [if_neg h2]
    have hd : ¬ (n : Int) < 200 := by omega
    rw [e]
    clear e
    go_enter Try.func36, Try.ntmps36
    go_wp2
    go_ret
    exact ⟨rfl, rfl⟩
theorem offset_q (n : Nat) (h : n < 256) (w : World) : Calls Try.prog 36 #[.int .u8 n] w fun e w' => e = .returned (.int .u64 (offP n : Nat)) ∧ w' = w := (offset_any n h w).mono fun _ _ ⟨h1, h2⟩ => ⟨h1, h2.symm⟩

def EventPost (w : World) (e : Ev) (x : Ending) (w' : World) : Prop :=
  x = .returned (.agg #[.int .u8 (e.k : Int), .int .i64 (e.t : Int), .int .u64 (e.off : Int), .int .u64 (e.val : Int), .int .u64 (e.old : Int), .int .i64 (e.line : Int), .int .i64 e.n, e.ch]) ∧ Below w.heap.size w w'

set_option maxHeartbeats 4000000 in
set_option maxRecDepth 100000 in
theorem event_any (a : Ac) (h : a.Fit) (w : World) : Calls Try.prog 6 #[.agg #[.int .u8 (a.k : Int), .int .u8 (a.t : Int), .int .u8 (a.w : Int), .int .u8 (a.v : Int), .int .u8 (a.o : Int), .int .u8 (a.n : Int)]] w (EventPost w a.ev) := by
  obtain ⟨k, t, wd, v, o, n⟩ := a
  have h1 := h.k
  have h2 := h.t
  have h3 := h.w
  have h4 := h.v
  have h5 := h.o
  have h6 := h.n
  simp only at h1 h2 h3 h4 h5 h6 ⊢
  generalize hpost : EventPost w (Ac.ev ⟨k, t, wd, v, o, n⟩) = post
  replace hpost := Lib.hid hpost
  have hoff := offset_q wd h3
  replace hoff := Lib.hid hoff
  have hE := Has.new w [.int .u8 (k : Int), .int .u8 (t : Int), .int .u8 (wd : Int), .int .u8 (v : Int), .int .u8 (o : Int), .int .u8 (n : Int)] 25
  have e0 := hE.cell (o := 0) rfl
  have e1 := hE.cell (o := 1) rfl
  have e2 := hE.cell (o := 2) rfl
  have e3 := hE.cell (o := 3) rfl
  have e4 := hE.cell (o := 4) rfl
  have e5 := hE.cell (o := 5) rfl
  obtain hr | hr | hr | hr | hr | hr | hr | hr : k % 8 = 0 ∨ k % 8 = 1 ∨ k % 8 = 2 ∨ k % 8 = 3 ∨ k % 8 = 4 ∨ k % 8 = 5 ∨ k % 8 = 6 ∨ k % 8 = 7 := by omega
  · have hk : (k : Int) % 8 = 0 := by omega
    have hev : Ac.ev ⟨k, t, wd, v, o, n⟩ = ⟨1, t % 3, offP wd, v, 0, 0, 0, .slice none 0 0⟩ := by simp [Ac.ev, hr]
    rw [hev] at hpost
    replace hr := Lib.hid hr
    clear hev
    go_enter Try.func6, Try.ntmps6
    go_wp2_with fail
    refine region_tail 8 (by kernel_rfl) (by kernel_rfl) ?_
    simp only [List.take_succ_cons, List.take_zero, List.drop_succ_cons, List.drop_zero]
    repeat still_step
    still_call (hoff.out _)
    repeat still_step
    refine wpStill_nil ?_
    go_wp2_with fail
    refine bodyPost_ret (v := .agg #[.int .u8 1, .int .i64 ((t : Int) % 3), .int .u64 (offP wd : Nat), .int .u64 (v : Int), .int .u64 0, .int .i64 0, .int .i64 0, .slice none 0 0]) (by simp [results, Try.results6, go_sem]) rfl ?_
    rw [← hpost.out]
    refine ⟨by simp, ?_⟩
    first | exact below_drewN (((Below.refl _ _).alloc (Nat.le_refl _) _).alloc (by simp) _) 1 | exact ((Below.refl _ _).alloc (Nat.le_refl _) _).alloc (by simp) _
  · have hk : (k : Int) % 8 = 1 := by omega
    have hev : Ac.ev ⟨k, t, wd, v, o, n⟩ = ⟨1, t % 3, offP wd, v, 0, 0, 0, .slice none 0 0⟩ := by simp [Ac.ev, hr]
    rw [hev] at hpost
    replace hr := Lib.hid hr
    clear hev
    go_enter Try.func6, Try.ntmps6
    go_wp2_with fail
    refine region_tail 8 (by kernel_rfl) (by kernel_rfl) ?_
    simp only [List.take_succ_cons, List.take_zero, List.drop_succ_cons, List.drop_zero]
    repeat still_step
    still_call (hoff.out _)
    repeat still_step
    refine wpStill_nil ?_
    go_wp2_with fail
    refine bodyPost_ret (v := .agg #[.int .u8 1, .int .i64 ((t : Int) % 3), .int .u64 (offP wd : Nat), .int .u64 (v : Int), .int .u64 0, .int .i64 0, .int .i64 0, .slice none 0 0]) (by simp [results, Try.results6, go_sem]) rfl ?_
    rw [← hpost.out]
    refine ⟨by simp, ?_⟩
    first | exact below_drewN (((Below.refl _ _).alloc (Nat.le_refl _) _).alloc (by simp) _) 1 | exact ((Below.refl _ _).alloc (Nat.le_refl _) _).alloc (by simp) _
  · have hk : (k : Int) % 8 = 2 := by omega
    have hev : Ac.ev ⟨k, t, wd, v, o, n⟩ = ⟨1, t % 3, offP wd, v, 0, 0, 0, .slice none 0 0⟩ := by simp [Ac.ev, hr]
    rw [hev] at hpost
    replace hr := Lib.hid hr
    clear hev
    go_enter Try.func6, Try.ntmps6
    go_wp2_with fail
    refine region_tail 8 (by kernel_rfl) (by kernel_rfl) ?_
    simp only [List.take_succ_cons, List.take_zero, List.drop_succ_cons, List.drop_zero]
    repeat still_step
    still_call (hoff.out _)
    repeat still_step
    refine wpStill_nil ?_
    go_wp2_with fail
    refine bodyPost_ret (v := .agg #[.int .u8 1, .int .i64 ((t : Int) % 3), .int .u64 (offP wd : Nat), .int .u64 (v : Int), .int .u64 0, .int .i64 0, .int .i64 0, .slice none 0 0]) (by simp [results, Try.results6, go_sem]) rfl ?_
    rw [← hpost.out]
    refine ⟨by simp, ?_⟩
    first | exact below_drewN (((Below.refl _ _).alloc (Nat.le_refl _) _).alloc (by simp) _) 1 | exact ((Below.refl _ _).alloc (Nat.le_refl _) _).alloc (by simp) _
  · have hk : (k : Int) % 8 = 3 := by omega
    have hev : Ac.ev ⟨k, t, wd, v, o, n⟩ = ⟨2, t % 3, offP wd, v, o % 4, 0, 0, .slice none 0 0⟩ := by simp [Ac.ev, hr]
    rw [hev] at hpost
    replace hr := Lib.hid hr
    clear hev
    go_enter Try.func6, Try.ntmps6
    go_wp2_with fail
    refine region_tail 12 (by kernel_rfl) (by kernel_rfl) ?_
    simp only [List.take_succ_cons, List.take_zero, List.drop_succ_cons, List.drop_zero]
    repeat still_step
    still_call (hoff.out _)
    repeat still_step
    refine wpStill_nil ?_
    go_wp2_with fail
    refine bodyPost_ret (v := .agg #[.int .u8 2, .int .i64 ((t : Int) % 3), .int .u64 (offP wd : Nat), .int .u64 (v : Int), .int .u64 ((o : Int) % 4), .int .i64 0, .int .i64 0, .slice none 0 0]) (by simp [results, Try.results6, go_sem]) rfl ?_
    rw [← hpost.out]
    refine ⟨by simp, ?_⟩
    first | exact below_drewN (((Below.refl _ _).alloc (Nat.le_refl _) _).alloc (by simp) _) 1 | exact ((Below.refl _ _).alloc (Nat.le_refl _) _).alloc (by simp) _
  · have hk : (k : Int) % 8 = 4 := by omega
    have hev : Ac.ev ⟨k, t, wd, v, o, n⟩ = ⟨3, t % 3, offP wd, 0, 0, 0, 0, .slice none 0 0⟩ := by simp [Ac.ev, hr]
    rw [hev] at hpost
    replace hr := Lib.hid hr
    clear hev
    go_enter Try.func6, Try.ntmps6
    go_wp2_with fail
    refine (hoff.out _).mono ?_
    rintro e w' ⟨rfl, rfl⟩
    go_wp2_with fail
    refine bodyPost_ret (v := .agg #[.int .u8 3, .int .i64 ((t : Int) % 3), .int .u64 (offP wd : Nat), .int .u64 0, .int .u64 0, .int .i64 0, .int .i64 0, .slice none 0 0]) (by simp [results, Try.results6, go_sem]) rfl ?_
    rw [← hpost.out]
    refine ⟨by simp, ?_⟩
    first | exact below_drewN (((Below.refl _ _).alloc (Nat.le_refl _) _).alloc (by simp) _) 1 | exact ((Below.refl _ _).alloc (Nat.le_refl _) _).alloc (by simp) _
  · have hk : (k : Int) % 8 = 5 := by omega
    have hev : Ac.ev ⟨k, t, wd, v, o, n⟩ = ⟨3, t % 3, offP wd, 0, 0, 0, 0, .slice none 0 0⟩ := by simp [Ac.ev, hr]
    rw [hev] at hpost
    replace hr := Lib.hid hr
    clear hev
    go_enter Try.func6, Try.ntmps6
    go_wp2_with fail
    refine (hoff.out _).mono ?_
    rintro e w' ⟨rfl, rfl⟩
    go_wp2_with fail
    refine bodyPost_ret (v := .agg #[.int .u8 3, .int .i64 ((t : Int) % 3), .int .u64 (offP wd : Nat), .int .u64 0, .int .u64 0, .int .i64 0, .int .i64 0, .slice none 0 0]) (by simp [results, Try.results6, go_sem]) rfl ?_
    rw [← hpost.out]
    refine ⟨by simp, ?_⟩
    first | exact below_drewN (((Below.refl _ _).alloc (Nat.le_refl _) _).alloc (by simp) _) 1 | exact ((Below.refl _ _).alloc (Nat.le_refl _) _).alloc (by simp) _
  · have hk : (k : Int) % 8 = 6 := by omega
    have hev : Ac.ev ⟨k, t, wd, v, o, n⟩ = ⟨4, t % 3, 0, 0, 0, 0, 0, .slice none 0 0⟩ := by simp [Ac.ev, hr]
    rw [hev] at hpost
    replace hr := Lib.hid hr
    clear hev
    go_enter Try.func6, Try.ntmps6
    go_wp2_with fail
    refine bodyPost_ret (v := .agg #[.int .u8 4, .int .i64 ((t : Int) % 3), .int .u64 0, .int .u64 0, .int .u64 0, .int .i64 0, .int .i64 0, .slice none 0 0]) (by simp [results, Try.results6, go_sem]) rfl ?_
    rw [← hpost.out]
    refine ⟨by simp, ?_⟩
    first | exact below_drewN (((Below.refl _ _).alloc (Nat.le_refl _) _).alloc (by simp) _) 1 | exact ((Below.refl _ _).alloc (Nat.le_refl _) _).alloc (by simp) _
  · have hk : (k : Int) % 8 = 7 := by omega
    have hev : Ac.ev ⟨k, t, wd, v, o, n⟩ = ⟨5, 0, 0, 0, 0, wd % 5, ((n % 4 : Nat) : Int), .slice none 0 0⟩ := by simp [Ac.ev, hr]
    rw [hev] at hpost
    replace hr := Lib.hid hr
    clear hev
    go_enter Try.func6, Try.ntmps6
    go_wp2_with fail
    refine bodyPost_ret (v := .agg #[.int .u8 5, .int .i64 0, .int .u64 0, .int .u64 0, .int .u64 0, .int .i64 ((wd : Int) % 5), .int .i64 ((n : Int) % 4), .slice none 0 0]) (by simp [results, Try.results6, go_sem]) rfl ?_
    rw [← hpost.out]
    refine ⟨by simp, ?_⟩
    first | exact below_drewN (((Below.refl _ _).alloc (Nat.le_refl _) _).alloc (by simp) _) 1 | exact ((Below.refl _ _).alloc (Nat.le_refl _) _).alloc (by simp) _
end Go.Proofs.Ytjmdibgncaljaaa


namespace Go.Proofs.Ytjmdibgncaljaaa
open Go.RowKit

theorem info65 : (Try.prog.info? 30).map (fun i => (i.zero, i.size, i.bytes)) = some (some (.agg #[.int .u8 0, .int .i64 0, .int .u64 0, .int .u64 0, .int .u64 0, .int .i64 0, .int .i64 0, .slice none 0 0]), 8, 80) := by kernel_rfl
def acCells (l : List Ac) : List Value := l.flatMap Ac.cells
theorem acCells_get : ∀ (es : List Ac) (i : Nat) (e : Ac), es[i]? = some e → ∀ j v, e.cells[j]? = some v → (acCells es)[i * 6 + j]? = some v
  | q :: es, 0, e, h, j, v, hj => by
    simp at h
    subst h
    have hl : j < q.cells.length := by
      rcases Nat.lt_or_ge j q.cells.length with h1 | h1
      · exact h1
      · rw [List.getElem?_eq_none h1] at hj; cases hj
    simp only [acCells, List.flatMap_cons, Nat.zero_mul, Nat.zero_add]
    rw [List.getElem?_append_left hl]; exact hj
  | q :: es, i + 1, e, h, j, v, hj => by
    have := acCells_get es i e (by simpa using h) j v hj
    have e1 : (i + 1) * 6 + j = q.cells.length + (i * 6 + j) := by show _ = 6 + _; omega
    simp only [acCells, List.flatMap_cons]
    rw [e1, List.getElem?_append_right (by omega), Nat.add_sub_cancel_left]
    exact this
  | [], _, _, h, _, _, _ => by simp at h
theorem evCells_snoc (l : List Ev) (e : Ev) : evCells (l ++ [e]) = evCells l ++ e.cells := by simp [evCells]
theorem evCells_length (l : List Ev) : (evCells l).length = l.length * 8 := by
  induction l with
  | nil => rfl
  | cons s l ih => simp only [evCells, List.flatMap_cons, List.length_append, List.length_cons] at *; rw [ih]; show 8 + _ = _; omega
theorem Ac.ev_good (a : Ac) (h : a.Fit) : a.ev.Good := by
  have h1 := h.k
  have h2 := h.t
  have h3 := offP_lt a.w h.w
  have h4 := h.v
  unfold Ac.ev
  split
  · exact ⟨⟨by simp, by simp; omega, by simp; omega, by simp; omega, by simp, by simp, by simp, by simp⟩, by simp, none, 0, 0, rfl, by simp [validP, kindB, plB]; omega⟩
  split
  · exact ⟨⟨by simp, by simp; omega, by simp; omega, by simp; omega, by simp; omega, by simp, by simp, by simp⟩, by simp, none, 0, 0, rfl, by simp [validP, kindB, plB]; omega⟩
  split
  · exact ⟨⟨by simp, by simp; omega, by simp; omega, by simp, by simp, by simp, by simp, by simp⟩, by simp, none, 0, 0, rfl, by simp [validP, kindB, plB]; omega⟩
  split
  · exact ⟨⟨by simp, by simp; omega, by simp, by simp, by simp, by simp, by simp, by simp⟩, by simp, none, 0, 0, rfl, by simp [validP, kindB, plB]; omega⟩
  · exact ⟨⟨by simp, by simp, by simp, by simp, by simp, by simp; omega, by simp; omega, by simp; omega⟩, by simp, none, 0, 0, rfl, by simp [validP, kindB, wdB]; omega⟩
theorem Ac.ev_ch (a : Ac) : a.ev.ch = .slice none 0 0 := by
  unfold Ac.ev
  (repeat' split) <;> rfl

/-- The events of acts. -/
def evs (l : List Ac) : List Ev := l.map Ac.ev
end Go.Proofs.Ytjmdibgncaljaaa
