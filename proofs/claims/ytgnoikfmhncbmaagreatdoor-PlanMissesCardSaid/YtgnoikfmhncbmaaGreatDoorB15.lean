/- Walks: Tree: the condition that the parts describe, in blocks of its own. -/
import Derived.Test.YtgnoikfmhncbmaaGreatDoorB14
set_option linter.unusedVariables false
set_option linter.unusedSimpArgs false
namespace Go.Proofs.YtgnoikfmhncbmaaGreatDoor
open Go.RowKit
/-! ### a region that calls once, builds a record and lays it into a box -/
structure BXC (w0 : World) (a : Value) (cs : List Value) (T : TypeId) (H : Nat → Option Value) (w : World) : Prop where
  c0 : ∀ u, H 0 = some u → u = a
  c1 : ∀ u, H 1 = some u → u = .agg cs.toArray
  c2 : ∀ u, H 2 = some u → ∃ b, u = .pointer (some ⟨b, 0, none⟩) ∧ w0.heap.size ≤ b ∧ Has w b cs T
  b : Below w0.heap.size w0 w
section
variable {w0 w w' : World} {a : Value} {cs : List Value} {T : TypeId} {H : Nat → Option Value}
theorem BXC.start : BXC w0 a cs T (fun _ => none) w0.drew :=
  ⟨fun v hv => (by cases hv), fun v hv => (by cases hv), fun v hv => (by cases hv), (Below.refl _ _).drew⟩
theorem BXC.call (h : BXC w0 a cs T H w) (hb : Below w.heap.size w w') : BXC w0 a cs T (setP H 0 a) w' :=
  ⟨fun u e => by cases e; rfl, h.c1, fun u e => by
    obtain ⟨b, h1, h2, h3⟩ := h.c2 u e
    exact ⟨b, h1, h2, h3.only (Only.of_below hb) (Nat.not_le.2 h3.lt)⟩, h.b.trans (hb.mono h.b.size)⟩
theorem BXC.bld (h : BXC w0 a cs T H w) : BXC w0 a cs T (setP H 1 (.agg cs.toArray)) w := ⟨h.c0, fun u e => by cases e; rfl, h.c2, h.b⟩
theorem BXC.new (h : BXC w0 a cs T H w) : BXC w0 a cs T (setP H 2 (.pointer (some ⟨w.heap.size, 0, none⟩))) (w.alloc (.cells cs.toArray T)) :=
  ⟨h.c0, h.c1, fun u e => by cases e; exact ⟨_, rfl, h.b.size, Has.new w cs T⟩, h.b.alloc h.b.size _⟩
theorem BXC.ex (H : Nat → Option Value) (w : World) (h : BXC w0 a cs T H w) (hn : ∃ s, s < 3 ∧ H s = none) : ∃ s u w', s < 3 ∧ H s = none ∧ BXC w0 a cs T (setP H s u) w' := by
  obtain ⟨s, hs, he⟩ := hn
  match s, hs with
  | 0, _ => exact ⟨0, _, w, by omega, he, h.call (Below.refl _ _)⟩
  | 1, _ => exact ⟨1, _, w, by omega, he, h.bld⟩
  | 2, _ => exact ⟨2, _, _, by omega, he, h.new⟩
theorem BXC.at {Hf : Nat → Value} {nds : List Nat} : clsP (BXC w0 a cs T) Hf nds w → Below w0.heap.size w0 w := fun ⟨_, _, _, h⟩ => h.b
theorem BXC.done {Hf : Nat → Value} (h : BXC w0 a cs T (fullP 3 Hf) w) : Hf 0 = a ∧ Hf 1 = .agg cs.toArray ∧ ∃ b, Hf 2 = .pointer (some ⟨b, 0, none⟩) ∧ w0.heap.size ≤ b ∧ Has w b cs T ∧ Below w0.heap.size w0 w := by
  obtain ⟨b, h1, h2, h3⟩ := h.c2 (Hf 2) rfl
  exact ⟨h.c0 _ rfl, h.c1 _ rfl, b, h1, h2, h3, h.b⟩
end
/-! ### a region that makes two trees and lays them into a node -/
structure TB (w0 : World) (b op : Nat) (col : ByteArray) (v : RV) (sl sr : AT) (H : Nat → Option Value) (w : World) : Prop where
  c0 : ∀ u, H 0 = some u → H 1 = none → ∃ t, u = t.ptr ∧ Tr w0.heap.size sl t w
  c1 : ∀ u, H 1 = some u → ∃ tl tr, H 0 = some tl.ptr ∧ u = tr.ptr ∧ Tr w0.heap.size sl tl w ∧ Tr w0.heap.size sr tr w ∧ ∀ a ∈ tl.addrs, a ∉ tr.addrs
  c2 : ∀ u, H 2 = some u → u = undef
  c3 : ∀ u, H 3 = some u → u = undef
  h : ∃ pl pr, Has w b (exCells op pl pr col v) 46 ∧ ((H 2).isSome = true → H 0 = some pl) ∧ ((H 3).isSome = true → H 1 = some pr) ∧ (H 2 = none → pl = .pointer none) ∧ (H 3 = none → pr = .pointer none)
  l : b < w0.heap.size
  o : Only (fun k => k = b) w0 w
section
variable {w0 w w' : World} {b op : Nat} {col : ByteArray} {v : RV} {sl sr : AT} {H : Nat → Option Value}
theorem TB.start (h : Has w0 b (exCells op (.pointer none) (.pointer none) col v) 46) : TB w0 b op col v sl sr (fun _ => none) w0.drew :=
  ⟨fun u e => (by cases e), fun u e => (by cases e), fun u e => (by cases e), fun u e => (by cases e), ⟨_, _, h.drew, fun e => (by cases e), fun e => (by cases e), fun _ => rfl, fun _ => rfl⟩, h.lt, (Only.refl _ _).drew⟩
theorem TB.left (h : TB w0 b op col v sl sr H w) (h0 : H 0 = none) {t : AT} (ht : Tr w.heap.size sl t w') (hb : Below w.heap.size w w') : TB w0 b op col v sl sr (setP H 0 t.ptr) w' := by
  have h1 : H 1 = none := by
    cases e : H 1 with
    | none => rfl
    | some u => obtain ⟨_, _, h2, _⟩ := h.c1 u e; rw [h0] at h2; cases h2
  refine ⟨fun u e _ => ?_, fun u e => ?_, h.c2, h.c3, ?_, h.l, h.o.trans ((Only.of_below hb).mono (fun k hk hs => absurd hs (Nat.not_le.2 hk)))⟩
  · cases e; exact ⟨t, rfl, ht.mono h.o.size⟩
  · rw [show setP H 0 t.ptr 1 = H 1 from rfl, h1] at e; cases e
  · obtain ⟨pl, pr, g1, g2, g3, g4, g5⟩ := h.h
    refine ⟨pl, pr, g1.only (Only.of_below hb) (Nat.not_le.2 g1.lt), fun e => ?_, fun e => g3 e, g4, g5⟩
    have := g2 e
    rw [h0] at this; cases this
theorem TB.right (h : TB w0 b op col v sl sr H w) (h1 : H 1 = none) {p : Value} (h0 : H 0 = some p) {t : AT} (ht : Tr w.heap.size sr t w') (hb : Below w.heap.size w w') : TB w0 b op col v sl sr (setP H 1 t.ptr) w' := by
  obtain ⟨tl, rfl, hl⟩ := h.c0 p h0 h1
  refine ⟨fun u e e1 => (by cases e1), fun u e => ?_, h.c2, h.c3, ?_, h.l, h.o.trans ((Only.of_below hb).mono (fun k hk hs => absurd hs (Nat.not_le.2 hk)))⟩
  · cases e
    exact ⟨tl, t, h0, rfl, hl.below hb, ht.mono h.o.size, fun a ha ha2 => absurd (ht.ge a ha2) (Nat.not_le.2 (hl.at'.lt a ha))⟩
  · obtain ⟨pl, pr, g1, g2, g3, g4, g5⟩ := h.h
    refine ⟨pl, pr, g1.only (Only.of_below hb) (Nat.not_le.2 g1.lt), fun e => g2 e, fun e => ?_, g4, g5⟩
    have := g3 e
    rw [h1] at this; cases this
theorem TB.sto2 (h : TB w0 b op col v sl sr H w) {p q : Value} (h0 : H 0 = some p) (h1 : H 1 = some q) (hn : H 2 = none) : TB w0 b op col v sl sr (setP H 2 undef) (w.setCell ⟨b, 1, none⟩ p) := by
  have ho : Only (fun k => k = b) w (w.setCell ⟨b, 1, none⟩ p) := (Only.refl (fun k => k = b) w).setCell (a := ⟨b, 1, none⟩) (fun _ => rfl) _
  refine ⟨fun u e e1 => (by rw [show setP H 2 undef 1 = H 1 from rfl, h1] at e1; cases e1), fun u e => ?_, fun u e => by cases e; rfl, h.c3, ?_, h.l, h.o.trans ho⟩
  · obtain ⟨tl, tr, g0, g1, g2, g3, g4⟩ := h.c1 u e
    exact ⟨tl, tr, g0, g1, g2.only ho (fun a ha e => by have := g2.ge a ha; have := h.l; omega), g3.only ho (fun a ha e => by have := g3.ge a ha; have := h.l; omega), g4⟩
  · obtain ⟨pl, pr, g1, g2, g3, g4, g5⟩ := h.h
    exact ⟨p, pr, g1.set 1 p, fun _ => h0, fun e => g3 e, fun e => (by cases e), g5⟩
theorem TB.sto3 (h : TB w0 b op col v sl sr H w) {q : Value} (h1 : H 1 = some q) : TB w0 b op col v sl sr (setP H 3 undef) (w.setCell ⟨b, 2, none⟩ q) := by
  have ho : Only (fun k => k = b) w (w.setCell ⟨b, 2, none⟩ q) := (Only.refl (fun k => k = b) w).setCell (a := ⟨b, 2, none⟩) (fun _ => rfl) _
  refine ⟨fun u e e1 => (by rw [show setP H 3 undef 1 = H 1 from rfl, h1] at e1; cases e1), fun u e => ?_, h.c2, fun u e => by cases e; rfl, ?_, h.l, h.o.trans ho⟩
  · obtain ⟨tl, tr, g0, g1, g2, g3, g4⟩ := h.c1 u e
    exact ⟨tl, tr, g0, g1, g2.only ho (fun a ha e => by have := g2.ge a ha; have := h.l; omega), g3.only ho (fun a ha e => by have := g3.ge a ha; have := h.l; omega), g4⟩
  · obtain ⟨pl, pr, g1, g2, g3, g4, g5⟩ := h.h
    exact ⟨pl, q, g1.set 2 q, fun e => g2 e, fun _ => h1, g4, fun e => (by cases e)⟩
theorem TB.ex (hl : ∀ w : World, ∃ t w', Tr w.heap.size sl t w' ∧ Below w.heap.size w w') (hr : ∀ w : World, ∃ t w', Tr w.heap.size sr t w' ∧ Below w.heap.size w w') (H : Nat → Option Value) (w : World) (h : TB w0 b op col v sl sr H w) (hn : ∃ s, s < 4 ∧ H s = none) : ∃ s u w', s < 4 ∧ H s = none ∧ TB w0 b op col v sl sr (setP H s u) w' := by
  cases h0 : H 0 with
  | none => obtain ⟨u, w', h1, h2⟩ := hl w; exact ⟨0, _, w', by omega, h0, h.left h0 h1 h2⟩
  | some p =>
    cases h1 : H 1 with
    | none => obtain ⟨u, w', h2, h3⟩ := hr w; exact ⟨1, _, w', by omega, h1, h.right h1 h0 h2 h3⟩
    | some q =>
      cases h2 : H 2 with
      | none => exact ⟨2, _, _, by omega, h2, h.sto2 h0 h1 h2⟩
      | some x2 =>
        cases h3 : H 3 with
        | none => exact ⟨3, _, _, by omega, h3, h.sto3 h1⟩
        | some x3 =>
          obtain ⟨s, hs, he⟩ := hn
          exfalso
          match s, hs with
          | 0, _ => rw [h0] at he; cases he
          | 1, _ => rw [h1] at he; cases he
          | 2, _ => rw [h2] at he; cases he
          | 3, _ => rw [h3] at he; cases he
theorem TB.at {Hf : Nat → Value} {nds : List Nat} : clsP (TB w0 b op col v sl sr) Hf nds w → Only (fun k => k = b) w0 w := fun ⟨_, _, _, h⟩ => h.o
theorem TB.done {Hf : Nat → Value} (h : TB w0 b op col v sl sr (fullP 4 Hf) w) : Hf 2 = undef ∧ Hf 3 = undef ∧ ∃ tl tr, Hf 0 = tl.ptr ∧ Hf 1 = tr.ptr ∧ Tr w0.heap.size sl tl w ∧ Tr w0.heap.size sr tr w ∧ (∀ a ∈ tl.addrs, a ∉ tr.addrs) ∧ Has w b (exCells op tl.ptr tr.ptr col v) 46 ∧ Only (fun k => k = b) w0 w := by
  obtain ⟨tl, tr, g0, g1, g2, g3, g4⟩ := h.c1 (Hf 1) rfl
  obtain ⟨pl, pr, k1, k2, k3, _, _⟩ := h.h
  have e0 : Hf 0 = tl.ptr := Option.some.inj g0
  have e1 : Hf 0 = pl := Option.some.inj (k2 rfl)
  have e2 : Hf 1 = pr := Option.some.inj (k3 rfl)
  rw [← e1, ← e2, e0, g1] at k1
  exact ⟨h.c2 _ rfl, h.c3 _ rfl, tl, tr, e0, g1, g2, g3, g4, k1, h.o⟩
theorem AT.isP : ∀ t : AT, ∃ p, t.ptr = .pointer p
  | .nil => ⟨none, rfl⟩
  | .node b _ _ _ _ _ => ⟨some ⟨b, 0, none⟩, rfl⟩
theorem tr_ex : ∀ (s : AT) (w : World), ∃ t w', Tr w.heap.size s t w' ∧ Below w.heap.size w w'
  | .nil, w => ⟨.nil, w, Tr.nil _ _, Below.refl _ _⟩
  | .node b op col v l r, w => by
    obtain ⟨tl, w1, hl, b1⟩ := tr_ex l w
    obtain ⟨tr, w2, hr, b2⟩ := tr_ex r w1
    have hb := (Below.refl w2.heap.size w2).alloc (Nat.le_refl _) (.cells (exCells op tl.ptr tr.ptr col v).toArray 46)
    have hz1 := b1.size
    have hz2 := b2.size
    have hl2 := hl.below b2
    refine ⟨.node w2.heap.size op col v tl tr, w2.alloc (.cells (exCells op tl.ptr tr.ptr col v).toArray 46), ⟨⟨Has.new w2 _ _, (hl2.below hb).at', (hr.below hb).at'⟩, ⟨rfl, rfl, rfl, hl.sm, hr.sm⟩, ?_, fun a ha => ?_⟩, b1.trans ((b2.trans (hb.mono hz2)).mono hz1)⟩
    · simp only [AT.addrs, List.nodup_cons, List.mem_append, not_or]
      exact ⟨⟨fun ha => absurd (hl2.at'.lt _ ha) (Nat.lt_irrefl _), fun ha => absurd (hr.at'.lt _ ha) (Nat.lt_irrefl _)⟩, List.nodup_append.2 ⟨hl.nd, hr.nd, fun a ha c hc e => by subst e; exact absurd (hr.ge a hc) (Nat.not_le.2 (hl.at'.lt a ha))⟩⟩
    · simp only [AT.addrs, List.mem_cons, List.mem_append] at ha
      rcases ha with rfl | ha | ha
      · omega
      · exact hl.ge a ha
      · have := hr.ge a ha; omega
end
set_option maxHeartbeats 4000000 in
set_option maxRecDepth 100000 in
theorem tree_any (l : List Nd) (hl : ∀ x ∈ l, x.Fit) : ∀ (k i : Nat) (v : Value) (w : World), Rd w v l.length (ndCells l) → 24 ≤ i + k → i ≤ 40 → Calls Tryz.prog 9 #[v, .int .i64 (i : Int)] w (TreP (treeO l k i) w) := by
  intro k
  induction k with
  | zero =>
    intro i v w hR hk hi
    generalize hpost : TreP (treeO l 0 i) w = post
    have hf : post (.returned (.pointer none)) w := by rw [← hpost]; exact ⟨.nil, rfl, Tr.nil _ _, Below.refl _ _⟩
    clear hpost
    replace hf := Lib.hid hf
    obtain ⟨a, cap, rfl, hR⟩ := hR
    generalize l.length = n at *
    have h24 : decide ((24 : Int) ≤ (i : Int)) = true := decide_eq_true (by omega)
    clear hR hl hk
    by_cases hn : n ≤ i
    · have h1 : decide ((n : Int) ≤ (i : Int)) = true := decide_eq_true (by omega)
      have h1' : decide (n ≤ i) = true := decide_eq_true hn
      replace hn := Lib.hid hn
      go_enter Tryz.func9, Tryz.ntmps9
      go_wp2_with fail
      exact hf.out
    · have h1 : decide ((n : Int) ≤ (i : Int)) = false := decide_eq_false (by omega)
      have h1' : decide (n ≤ i) = false := decide_eq_false hn
      replace hn := Lib.hid hn
      go_enter Tryz.func9, Tryz.ntmps9
      go_wp2_with fail
      exact hf.out
  | succ k ih =>
    intro i v w hR hk hi
    by_cases hn : l.length ≤ i ∨ 24 ≤ i
    · generalize hpost : TreP (treeO l (k + 1) i) w = post
      have hf : post (.returned (.pointer none)) w := by
        rw [← hpost]
        have e : treeO l (k + 1) i = .nil := by
          unfold treeO
          split
          · rfl
          rename_i x hx
          rcases hn with hn | hn
          · rw [List.getElem?_eq_none hn] at hx; cases hx
          · exact if_pos hn
        rw [e]
        exact ⟨.nil, rfl, Tr.nil _ _, Below.refl _ _⟩
      clear hpost
      replace hf := Lib.hid hf
      obtain ⟨a, cap, rfl, hR⟩ := hR
      generalize l.length = n at *
      clear hR hl ih
      by_cases hn1 : n ≤ i
      · have h1 : decide ((n : Int) ≤ (i : Int)) = true := decide_eq_true (by omega)
        have h1' : decide (n ≤ i) = true := decide_eq_true hn1
        replace hn := Lib.hid hn
        replace hn1 := Lib.hid hn1
        go_enter Tryz.func9, Tryz.ntmps9
        go_wp2_with fail
        exact hf.out
      · have h24 : decide ((24 : Int) ≤ (i : Int)) = true := decide_eq_true (by omega)
        have h1 : decide ((n : Int) ≤ (i : Int)) = false := decide_eq_false (by omega)
        have h1' : decide (n ≤ i) = false := decide_eq_false hn1
        replace hn := Lib.hid hn
        replace hn1 := Lib.hid hn1
        go_enter Tryz.func9, Tryz.ntmps9
        go_wp2_with fail
        exact hf.out
    · have hi1 : i < l.length := by omega
      have hi2 : ¬ 24 ≤ i := by omega
      obtain ⟨x, hx⟩ : ∃ x, l[i]? = some x := ⟨_, List.getElem?_eq_getElem hi1⟩
      have hxF := hl x (List.mem_of_getElem? hx)
      have hne : ndCells l ≠ [] := fun e => by have := ndCells_len l; rw [e] at this; simp at this; omega
      generalize hpost : TreP (treeO l (k + 1) i) w = post
      have hf : ∀ (t : AT) (w' : World), Tr w.heap.size (treeO l (k + 1) i) t w' → Below w.heap.size w w' → post (.returned t.ptr) w' := fun t w' h1 h2 => by rw [← hpost]; exact ⟨t, rfl, h1, h2⟩
      clear hpost
      have hto : treeO l (k + 1) i = .node 0 (x.op % 12) (colN x.col) x.v (if x.op % 12 = 1 ∨ x.op % 12 = 2 ∨ x.op % 12 = 3 then treeO l k (i + 1 + x.lf % 3) else .nil) (if x.op % 12 = 1 ∨ x.op % 12 = 2 then treeO l k (i + 2 + x.rt % 4) else .nil) := by
        rw [treeO, hx]; exact if_neg hi2
      rw [hto] at hf
      clear hto
      have hown : ∀ c, v.ownBlock = some c → c < w.heap.size := fun c hc => hR.lt hne hc
      have hR' := hR
      obtain ⟨b, off, cap, rfl, hC⟩ := hR.cells (by omega)
      have hcell : ∀ j u, x.cells[j]? = some u → w.cell? ⟨b, off + i * 9 + j, none⟩ = some u := fun j u hj => by rw [Nat.add_assoc]; exact hC _ _ (ndCells_get l i x hx j u hj)
      obtain ⟨op, col, ⟨tv, nv, iv, xv, bv⟩, lf, rt⟩ := x
      have e0 := hcell 0 _ rfl
      rw [Nat.add_zero] at e0
      have e1 := hcell 1 _ rfl
      have e2 := hcell 2 _ rfl
      have e3 := hcell 3 _ rfl
      have e4 := hcell 4 _ rfl
      have e5 := hcell 5 _ rfl
      have e6 := hcell 6 _ rfl
      have e7 := hcell 7 _ rfl
      have e8 := hcell 8 _ rfl
      dsimp only at e0 e1 e2 e3 e4 e5 e6 e7 e8 hf
      have hcol := hxF.col
      have hcl : ∀ w : World, Calls Tryz.prog 11 #[.int .u8 (col : Int)] w (RPost w (.string (colN col))) := fun w => column_any col hcol w
      generalize colN col = cc at *
      obtain ⟨o, ho⟩ : ∃ o, op % 12 = o := ⟨_, rfl⟩
      have hot : (op : Int).tmod 12 = (o : Int) := by rw [← ho]; rfl
      have ho12 : o < 12 := by omega
      rw [ho] at hf
      have hRw : ∀ w', Below w.heap.size w w' → Rd w' (.slice (some ⟨b, off, none⟩) l.length cap) l.length (ndCells l) := fun w' h => hR'.below h hown
      have hih : ∀ (j : Nat) (w' : World), Below w.heap.size w w' → i < j → j ≤ 40 → Calls Tryz.prog 9 #[.slice (some ⟨b, off, none⟩) l.length cap, .int .i64 (j : Int)] w' (TreP (treeO l k j) w') := fun j w' h h1 h2 => ih j _ w' (hRw w' h) (by omega) h2
      clear ih hRw hC hcell hR hR' hx hne hown hl
      have hlf : lf % 3 < 3 := Nat.mod_lt _ (by decide)
      have hrt : rt % 4 < 4 := Nat.mod_lt _ (by decide)
      have hlt : (lf : Int).tmod 3 = ((lf % 3 : Nat) : Int) := rfl
      have hrtt : (rt : Int).tmod 4 = ((rt % 4 : Nat) : Int) := rfl
      generalize lf % 3 = dl at *
      generalize rt % 4 = dr at *
      generalize l.length = n at *
      have hihL : ∀ w' : World, Below w.heap.size w w' → Calls Tryz.prog 9 #[.slice (some ⟨b, off, none⟩) n cap, .int .i64 ((i : Int) + 1 + (dl : Int))] w' (TreP (treeO l k (i + 1 + dl)) w') := fun w' h => by
        have := hih (i + 1 + dl) w' h (by omega) (by omega)
        rwa [show ((i + 1 + dl : Nat) : Int) = (i : Int) + 1 + (dl : Int) by omega] at this
      have hihR : ∀ w' : World, Below w.heap.size w w' → Calls Tryz.prog 9 #[.slice (some ⟨b, off, none⟩) n cap, .int .i64 ((i : Int) + 2 + (dr : Int))] w' (TreP (treeO l k (i + 2 + dr)) w') := fun w' h => by
        have := hih (i + 2 + dr) w' h (by omega) (by omega)
        rwa [show ((i + 2 + dr : Nat) : Int) = (i : Int) + 2 + (dr : Int) by omega] at this
      clear hih
      generalize treeO l k (i + 1 + dl) = sl at *
      generalize treeO l k (i + 2 + dr) = sr at *
      have h1 : decide ((n : Int) ≤ (i : Int)) = false := decide_eq_false (by omega)
      have h1' : decide (n ≤ i) = false := decide_eq_false (by omega)
      have h24 : decide ((24 : Int) ≤ (i : Int)) = false := decide_eq_false (by omega)
      have hin : i < n := by omega
      have hinI : (i : Int) < (n : Int) := by omega
      replace hn := Lib.hid hn
      replace hf := Lib.hid hf
      replace hcl := Lib.hid hcl
      replace hihL := Lib.hid hihL
      replace hihR := Lib.hid hihR
      replace ho := Lib.hid ho
      clear hi1 hi2 hxF hcol
      replace hk := Lib.hid hk
      obtain ⟨W1, hW1⟩ : ∃ W1, W1 = w.alloc (.cells #[.int .u8 (op : Int), .int .u8 (col : Int), .int .u8 (tv : Int), .bool nv, .int .i64 iv, .string xv, .bool bv, .int .u8 (lf : Int), .int .u8 (rt : Int)] 90) := ⟨_, rfl⟩
      have HX : Has W1 (w.heap.size) [.int .u8 (op : Int), .int .u8 (col : Int), .int .u8 (tv : Int), .bool nv, .int .i64 iv, .string xv, .bool bv, .int .u8 (lf : Int), .int .u8 (rt : Int)] 90 := by
        rw [hW1]; have h := Has.new (w) [.int .u8 (op : Int), .int .u8 (col : Int), .int .u8 (tv : Int), .bool nv, .int .i64 iv, .string xv, .bool bv, .int .u8 (lf : Int), .int .u8 (rt : Int)] 90; (try simp only [World.size_alloc] at h); exact h
      have hbW1 : Below w.heap.size w W1 := by rw [hW1]; exact ((Below.refl _ _).alloc (by first | exact Nat.le_refl _ | (simp only [World.size_alloc]; omega)) _)
      have hzW1 : W1.heap.size = w.heap.size + 1 := by rw [hW1]; simp
      replace hW1 := Lib.hid hW1
      go_enter Tryz.func9, Tryz.ntmps9
      replace hzW1 := Lib.hid hzW1
      go_upto_region 4 with fail
      replace hzW1 := hzW1.out
      rw [show w.alloc (.cells #[.int .u8 (op : Int), .int .u8 (col : Int), .int .u8 (tv : Int), .bool nv, .int .i64 iv, .string xv, .bool bv, .int .u8 (lf : Int), .int .u8 (rt : Int)] 90) = W1 from hW1.out.symm]
      have hXx : ∀ wx, Below W1.heap.size W1 wx → Has wx w.heap.size [.int .u8 (op : Int), .int .u8 (col : Int), .int .u8 (tv : Int), .bool nv, .int .i64 iv, .string xv, .bool bv, .int .u8 (lf : Int), .int .u8 (rt : Int)] 90 := fun wx h => HX.only (Only.of_below h) (Nat.not_le.2 HX.lt)
      replace hXx := Lib.hid hXx
      refine wp_region_part [5, 8, 9] [[], [0], [1]] [] (BXC W1 (.string cc) [.int .u8 (o : Int), .pointer none, .pointer none, .string cc, .int .u8 (tv : Int), .bool nv, .int .i64 iv, .string xv, .bool bv] 46) (by kernel_rfl) (by kernel_rfl) (by kernel_rfl) BXC.start BXC.ex (fun Hf hx => ?_)
      obtain ⟨w', hx⟩ := hx
      obtain ⟨v0e, v1e, be, v2e, _⟩ := hx.done
      refine part_chunk [] 5 0 _ _ (by kernel_rfl) (by kernel_rfl) (by decide) ?_
      simp only [List.take_succ_cons, List.take_zero, List.drop_succ_cons, List.drop_zero]
      iterate 1 (go_big_quiet_want; go_big_quiet_op; first | go_big_quiet_on | (refine ⟨_, fun _ _ => rfl, ?_⟩; go_big_quiet_on))
      go_big_quiet_want
      go_big_quiet_op
      refine ⟨.int .u8 (op : Int), fun wx hx => by
        have h := hXx.out wx (BXC.at hx)
        have q0 := h.cell (o := 0) rfl
        simp [go_sem, q0], ?_⟩
      go_big_quiet_on
      go_big_quiet_want
      go_big_quiet_op
      first | go_big_quiet_on | (refine ⟨.int .u8 (o : Int), fun wx hx => by simp [go_sem, hot], ?_⟩; go_big_quiet_on)
      iterate 1 (go_big_quiet_want; go_big_quiet_op; first | go_big_quiet_on | (refine ⟨_, fun _ _ => rfl, ?_⟩; go_big_quiet_on))
      go_big_quiet_want
      go_big_quiet_op
      refine ⟨.int .u8 (col : Int), fun wx hx => by
        have h := hXx.out wx (BXC.at hx)
        have q1 := h.cell (o := 1) rfl
        simp [go_sem, q1], ?_⟩
      go_big_quiet_on
      refine wpQuiet_nil ?_
      refine part_step (s := 0) v0e (by go_simp; exact rfl) (by kernel_rfl) (by kernel_rfl) (fun H wx hs hn hp hc => ?_) ?_
      · refine callUpon_mk (f := 11) (args := #[.int .u8 (col : Int)]) (by simp [go_sem]) ?_
        exact (hcl.out wx).mono fun e w'' ⟨he, h2⟩ => ⟨_, he, hc.call h2⟩
      refine part_chunk [] 2 _ _ _ (by kernel_rfl) (by kernel_rfl) (by decide) ?_
      simp only [List.take_succ_cons, List.take_zero, List.drop_succ_cons, List.drop_zero]
      iterate 1 (go_big_quiet_want; go_big_quiet_op; first | go_big_quiet_on | (refine ⟨_, fun _ _ => rfl, ?_⟩; go_big_quiet_on))
      go_big_quiet_want
      go_big_quiet_op
      refine ⟨.agg #[.int .u8 (tv : Int), .bool nv, .int .i64 iv, .string xv, .bool bv], fun wx hx => by
        have h := hXx.out wx (BXC.at hx)
        have q2 := h.cell (o := 2) rfl
        have q3 := h.cell (o := 3) rfl
        have q4 := h.cell (o := 4) rfl
        have q5 := h.cell (o := 5) rfl
        have q6 := h.cell (o := 6) rfl
        simp [go_sem, q2, q3, q4, q5, q6], ?_⟩
      go_big_quiet_on
      refine wpQuiet_nil ?_
      refine part_step (s := 1) v1e (by go_simp; exact rfl) (by kernel_rfl) (by kernel_rfl) (fun H wx hs hn hp hc => ?_) ?_
      · exact callUpon_value (by simp [go_sem]) hc.bld
      refine part_step (s := 2) v2e (by go_simp; exact rfl) (by kernel_rfl) (by kernel_rfl) (fun H wx hs hn hp hc => ?_) ?_
      · exact callUpon_value (by simp [go_sem]) hc.new
      refine part_chunk [] 1 _ _ _ (by kernel_rfl) (by kernel_rfl) (by decide) ?_
      simp only [List.take_succ_cons, List.take_zero, List.drop_succ_cons, List.drop_zero]
      iterate 1 (go_big_quiet_want; go_big_quiet_op; first | go_big_quiet_on | (refine ⟨_, fun _ _ => rfl, ?_⟩; go_big_quiet_on))
      refine wpQuiet_nil ?_
      intro wz hz
      obtain ⟨_, _, bz, e2z, hbz, hE, hbW⟩ := hz.done
      rw [v2e] at e2z
      cases e2z
      clear hx hz v0e v1e v2e hXx
      replace HX : Has wz (w.heap.size) [.int .u8 (op : Int), .int .u8 (col : Int), .int .u8 (tv : Int), .bool nv, .int .i64 iv, .string xv, .bool bv, .int .u8 (lf : Int), .int .u8 (rt : Int)] 90 := HX.only (Only.of_below hbW) (Nat.not_le.2 HX.lt)
      have hbwz : Below w.heap.size w wz := hbW1.trans (hbW.mono hbW1.size)
      have hzwz := hbW.size
      replace HX := HX
      have hbe : w.heap.size < be := by omega
      have hbl := hE.lt
      replace hf := hf.out
      by_cases h1o : o = 1
      · have d1 : ((o : Int) == 1) = true := by simp [h1o]
        replace h1o := h1o
        rw [if_pos (by omega), if_pos (by omega)] at hf
        replace hf := Lib.hid hf
        have cE0 := hE.cell (o := 0) rfl
        have hXx : ∀ wx, Only (fun k => k = be) wz wx → Has wx w.heap.size [.int .u8 (op : Int), .int .u8 (col : Int), .int .u8 (tv : Int), .bool nv, .int .i64 iv, .string xv, .bool bv, .int .u8 (lf : Int), .int .u8 (rt : Int)] 90 := fun wx h => HX.only h (by omega)
        replace hXx := Lib.hid hXx
        have hwx : ∀ wx, Only (fun k => k = be) wz wx → Below w.heap.size w wx := fun wx h => hbwz.trans (h.below (B := w.heap.size) hbwz.size (fun k _ e => by omega))
        replace hwx := Lib.hid hwx
        replace hzW1 := Lib.hid hzW1
        go_upto_region 8 with fail
        replace hzW1 := hzW1.out
        clear cE0
        refine wp_region_part [10, 19, 22, 25] [[], [0], [0, 1], [1]] [] (TB wz be o cc ⟨tv, nv, iv, xv, bv⟩ sl sr) (by kernel_rfl) (by kernel_rfl) (by kernel_rfl) (TB.start hE) (TB.ex (tr_ex sl) (tr_ex sr)) (fun Hf hx => ?_)
        obtain ⟨w', hx⟩ := hx
        obtain ⟨v2e, v3e, tl, tr, v0e, v1e, _⟩ := hx.done
        obtain ⟨q0, hq0⟩ := tl.isP
        obtain ⟨q1, hq1⟩ := tr.isP
        rw [hq0] at v0e
        rw [hq1] at v1e
        refine part_chunk [] 10 0 _ _ (by kernel_rfl) (by kernel_rfl) (by decide) ?_
        simp only [List.take_succ_cons, List.take_zero, List.drop_succ_cons, List.drop_zero]
        iterate 4 (go_big_quiet_want; go_big_quiet_op; first | go_big_quiet_on | (refine ⟨_, fun _ _ => rfl, ?_⟩; go_big_quiet_on))
        go_big_quiet_want
        go_big_quiet_op
        first | go_big_quiet_on | (refine ⟨.int .i64 ((i : Int) + 1), fun wx hx => by (first | (simp [go_sem]; done) | (simp [go_sem]; omega)), ?_⟩; go_big_quiet_on)
        iterate 1 (go_big_quiet_want; go_big_quiet_op; first | go_big_quiet_on | (refine ⟨_, fun _ _ => rfl, ?_⟩; go_big_quiet_on))
        go_big_quiet_want
        go_big_quiet_op
        refine ⟨.int .u8 (lf : Int), fun wx hx => by
          have h := hXx.out wx (TB.at hx)
          have q7 := h.cell (o := 7) rfl
          simp [go_sem, q7], ?_⟩
        go_big_quiet_on
        go_big_quiet_want
        go_big_quiet_op
        first | go_big_quiet_on | (refine ⟨.int .u8 (dl : Int), fun wx hx => by simp [go_sem, hlt], ?_⟩; go_big_quiet_on)
        go_big_quiet_want
        go_big_quiet_op
        first | go_big_quiet_on | (refine ⟨.int .i64 (dl : Int), fun wx hx => by simp [go_sem], ?_⟩; go_big_quiet_on)
        go_big_quiet_want
        go_big_quiet_op
        first | go_big_quiet_on | (refine ⟨.int .i64 ((i : Int) + 1 + (dl : Int)), fun wx hx => by (first | (simp [go_sem]; done) | (simp [go_sem]; omega)), ?_⟩; go_big_quiet_on)
        refine wpQuiet_nil ?_
        refine part_step (s := 0) v0e (by go_simp; exact rfl) (by kernel_rfl) (by kernel_rfl) (fun H wx hs hn hp hc => ?_) ?_
        · refine callUpon_mk (f := 9) (args := #[.slice (some ⟨b, off, none⟩) n cap, .int .i64 ((i : Int) + 1 + (dl : Int))]) (by simp [go_sem]) ?_
          exact (hihL.out wx (hwx.out wx hc.o)).mono fun e w'' ⟨t, he, h1, h2⟩ => ⟨_, he, hc.left hn h1 h2⟩
        refine part_chunk [] 8 _ _ _ (by kernel_rfl) (by kernel_rfl) (by decide) ?_
        simp only [List.take_succ_cons, List.take_zero, List.drop_succ_cons, List.drop_zero]
        iterate 2 (go_big_quiet_want; go_big_quiet_op; first | go_big_quiet_on | (refine ⟨_, fun _ _ => rfl, ?_⟩; go_big_quiet_on))
        go_big_quiet_want
        go_big_quiet_op
        first | go_big_quiet_on | (refine ⟨.int .i64 ((i : Int) + 2), fun wx hx => by (first | (simp [go_sem]; done) | (simp [go_sem]; omega)), ?_⟩; go_big_quiet_on)
        iterate 1 (go_big_quiet_want; go_big_quiet_op; first | go_big_quiet_on | (refine ⟨_, fun _ _ => rfl, ?_⟩; go_big_quiet_on))
        go_big_quiet_want
        go_big_quiet_op
        refine ⟨.int .u8 (rt : Int), fun wx hx => by
          have h := hXx.out wx (TB.at hx)
          have q8 := h.cell (o := 8) rfl
          simp [go_sem, q8], ?_⟩
        go_big_quiet_on
        go_big_quiet_want
        go_big_quiet_op
        first | go_big_quiet_on | (refine ⟨.int .u8 (dr : Int), fun wx hx => by simp [go_sem, hrtt], ?_⟩; go_big_quiet_on)
        go_big_quiet_want
        go_big_quiet_op
        first | go_big_quiet_on | (refine ⟨.int .i64 (dr : Int), fun wx hx => by simp [go_sem], ?_⟩; go_big_quiet_on)
        go_big_quiet_want
        go_big_quiet_op
        first | go_big_quiet_on | (refine ⟨.int .i64 ((i : Int) + 2 + (dr : Int)), fun wx hx => by (first | (simp [go_sem]; done) | (simp [go_sem]; omega)), ?_⟩; go_big_quiet_on)
        refine wpQuiet_nil ?_
        refine part_step (s := 1) v1e (by go_simp; exact rfl) (by kernel_rfl) (by kernel_rfl) (fun H wx hs hn hp hc => ?_) ?_
        · obtain ⟨p0, hp0⟩ := Option.isSome_iff_exists.1 (hp 0 (by simp))
          refine callUpon_mk (f := 9) (args := #[.slice (some ⟨b, off, none⟩) n cap, .int .i64 ((i : Int) + 2 + (dr : Int))]) (by simp [go_sem]) ?_
          exact (hihR.out wx (hwx.out wx hc.o)).mono fun e w'' ⟨t, he, h1, h2⟩ => ⟨_, he, hc.right hn hp0 h1 h2⟩
        refine part_chunk [] 2 _ _ _ (by kernel_rfl) (by kernel_rfl) (by decide) ?_
        simp only [List.take_succ_cons, List.take_zero, List.drop_succ_cons, List.drop_zero]
        iterate 2 (go_big_quiet_want; go_big_quiet_op; first | go_big_quiet_on | (refine ⟨_, fun _ _ => rfl, ?_⟩; go_big_quiet_on))
        refine wpQuiet_nil ?_
        refine part_step (s := 2) v2e (by go_simp; exact rfl) (by kernel_rfl) (by kernel_rfl) (fun H wx hs hn hp hc => ?_) ?_
        · have g0 : H 0 = some (.pointer q0) := by
            obtain ⟨x, hx⟩ := Option.isSome_iff_exists.1 (hp 0 (by simp))
            rw [hx, ← v0e, hs 0 x hx]
          obtain ⟨x1, hx1⟩ := Option.isSome_iff_exists.1 (hp 1 (by simp))
          obtain ⟨pl, pr, g, _⟩ := hc.h
          have c1 := g.cell (o := 1) rfl
          have f1 := g.free 1
          exact callUpon_skip (by simp [go_sem, c1, f1]; try rfl) (hc.sto2 g0 hx1 hn)
        refine part_chunk [] 2 _ _ _ (by kernel_rfl) (by kernel_rfl) (by decide) ?_
        simp only [List.take_succ_cons, List.take_zero, List.drop_succ_cons, List.drop_zero]
        iterate 2 (go_big_quiet_want; go_big_quiet_op; first | go_big_quiet_on | (refine ⟨_, fun _ _ => rfl, ?_⟩; go_big_quiet_on))
        refine wpQuiet_nil ?_
        refine part_step (s := 3) v3e (by go_simp; exact rfl) (by kernel_rfl) (by kernel_rfl) (fun H wx hs hn hp hc => ?_) ?_
        · have g1 : H 1 = some (.pointer q1) := by
            obtain ⟨x, hx⟩ := Option.isSome_iff_exists.1 (hp 1 (by simp))
            rw [hx, ← v1e, hs 1 x hx]
          obtain ⟨pl, pr, g, _⟩ := hc.h
          have c2 := g.cell (o := 2) rfl
          have f2 := g.free 2
          exact callUpon_skip (by simp [go_sem, c2, f2]; try rfl) (hc.sto3 g1)
        unfold wpLexP
        intro wy hy
        obtain ⟨_, _, tl2, tr2, _, _, hTl, hTr, hdis, hEy, hoy⟩ := hy.done
        have hnl : ∀ a ∈ tl2.addrs, be ≠ a := fun a ha e => by have := hTl.ge a ha; omega
        have hnr : ∀ a ∈ tr2.addrs, be ≠ a := fun a ha e => by have := hTr.ge a ha; omega
        have hfin := hf.out (.node be o cc ⟨tv, nv, iv, xv, bv⟩ tl2 tr2) wy (by
          refine ⟨⟨hEy, hTl.at', hTr.at'⟩, ⟨rfl, rfl, rfl, hTl.sm, hTr.sm⟩, ?_, fun a ha => ?_⟩
          · simp only [AT.addrs, List.nodup_cons, List.mem_append, not_or]
            exact ⟨⟨fun ha => hnl _ ha rfl, fun ha => hnr _ ha rfl⟩, List.nodup_append.2 ⟨hTl.nd, hTr.nd, fun a ha c hc e => by subst e; exact hdis a ha hc⟩⟩
          · simp only [AT.addrs, List.mem_cons, List.mem_append] at ha
            rcases ha with rfl | ha | ha
            · omega
            · have := hTl.ge a ha; omega
            · have := hTr.ge a ha; omega) (hwx.out wy hoy)
        replace hfin := Lib.hid hfin
        clear hx hy hEy hTl hTr hdis hoy hnl hnr v0e v1e v2e v3e
        replace hzW1 := Lib.hid hzW1
        go_wp2_with fail
        exact hfin.out
      have d1 : ((o : Int) == 1) = false := by simp; omega
      by_cases h2o : o = 2
      · have d2 : ((o : Int) == 2) = true := by simp [h2o]
        rw [if_pos (by omega), if_pos (by omega)] at hf
        replace hf := Lib.hid hf
        have cE0 := hE.cell (o := 0) rfl
        have hXx : ∀ wx, Only (fun k => k = be) wz wx → Has wx w.heap.size [.int .u8 (op : Int), .int .u8 (col : Int), .int .u8 (tv : Int), .bool nv, .int .i64 iv, .string xv, .bool bv, .int .u8 (lf : Int), .int .u8 (rt : Int)] 90 := fun wx h => HX.only h (by omega)
        replace hXx := Lib.hid hXx
        have hwx : ∀ wx, Only (fun k => k = be) wz wx → Below w.heap.size w wx := fun wx h => hbwz.trans (h.below (B := w.heap.size) hbwz.size (fun k _ e => by omega))
        replace hwx := Lib.hid hwx
        replace hzW1 := Lib.hid hzW1
        go_upto_region 8 with fail
        replace hzW1 := hzW1.out
        clear cE0
        refine wp_region_part [10, 19, 22, 25] [[], [0], [0, 1], [1]] [] (TB wz be o cc ⟨tv, nv, iv, xv, bv⟩ sl sr) (by kernel_rfl) (by kernel_rfl) (by kernel_rfl) (TB.start hE) (TB.ex (tr_ex sl) (tr_ex sr)) (fun Hf hx => ?_)
        obtain ⟨w', hx⟩ := hx
        obtain ⟨v2e, v3e, tl, tr, v0e, v1e, _⟩ := hx.done
        obtain ⟨q0, hq0⟩ := tl.isP
        obtain ⟨q1, hq1⟩ := tr.isP
        rw [hq0] at v0e
        rw [hq1] at v1e
        refine part_chunk [] 10 0 _ _ (by kernel_rfl) (by kernel_rfl) (by decide) ?_
        simp only [List.take_succ_cons, List.take_zero, List.drop_succ_cons, List.drop_zero]
        iterate 4 (go_big_quiet_want; go_big_quiet_op; first | go_big_quiet_on | (refine ⟨_, fun _ _ => rfl, ?_⟩; go_big_quiet_on))
        go_big_quiet_want
        go_big_quiet_op
        first | go_big_quiet_on | (refine ⟨.int .i64 ((i : Int) + 1), fun wx hx => by (first | (simp [go_sem]; done) | (simp [go_sem]; omega)), ?_⟩; go_big_quiet_on)
        iterate 1 (go_big_quiet_want; go_big_quiet_op; first | go_big_quiet_on | (refine ⟨_, fun _ _ => rfl, ?_⟩; go_big_quiet_on))
        go_big_quiet_want
        go_big_quiet_op
        refine ⟨.int .u8 (lf : Int), fun wx hx => by
          have h := hXx.out wx (TB.at hx)
          have q7 := h.cell (o := 7) rfl
          simp [go_sem, q7], ?_⟩
        go_big_quiet_on
        go_big_quiet_want
        go_big_quiet_op
        first | go_big_quiet_on | (refine ⟨.int .u8 (dl : Int), fun wx hx => by simp [go_sem, hlt], ?_⟩; go_big_quiet_on)
        go_big_quiet_want
        go_big_quiet_op
        first | go_big_quiet_on | (refine ⟨.int .i64 (dl : Int), fun wx hx => by simp [go_sem], ?_⟩; go_big_quiet_on)
        go_big_quiet_want
        go_big_quiet_op
        first | go_big_quiet_on | (refine ⟨.int .i64 ((i : Int) + 1 + (dl : Int)), fun wx hx => by (first | (simp [go_sem]; done) | (simp [go_sem]; omega)), ?_⟩; go_big_quiet_on)
        refine wpQuiet_nil ?_
        refine part_step (s := 0) v0e (by go_simp; exact rfl) (by kernel_rfl) (by kernel_rfl) (fun H wx hs hn hp hc => ?_) ?_
        · refine callUpon_mk (f := 9) (args := #[.slice (some ⟨b, off, none⟩) n cap, .int .i64 ((i : Int) + 1 + (dl : Int))]) (by simp [go_sem]) ?_
          exact (hihL.out wx (hwx.out wx hc.o)).mono fun e w'' ⟨t, he, h1, h2⟩ => ⟨_, he, hc.left hn h1 h2⟩
        refine part_chunk [] 8 _ _ _ (by kernel_rfl) (by kernel_rfl) (by decide) ?_
        simp only [List.take_succ_cons, List.take_zero, List.drop_succ_cons, List.drop_zero]
        iterate 2 (go_big_quiet_want; go_big_quiet_op; first | go_big_quiet_on | (refine ⟨_, fun _ _ => rfl, ?_⟩; go_big_quiet_on))
        go_big_quiet_want
        go_big_quiet_op
        first | go_big_quiet_on | (refine ⟨.int .i64 ((i : Int) + 2), fun wx hx => by (first | (simp [go_sem]; done) | (simp [go_sem]; omega)), ?_⟩; go_big_quiet_on)
        iterate 1 (go_big_quiet_want; go_big_quiet_op; first | go_big_quiet_on | (refine ⟨_, fun _ _ => rfl, ?_⟩; go_big_quiet_on))
        go_big_quiet_want
        go_big_quiet_op
        refine ⟨.int .u8 (rt : Int), fun wx hx => by
          have h := hXx.out wx (TB.at hx)
          have q8 := h.cell (o := 8) rfl
          simp [go_sem, q8], ?_⟩
        go_big_quiet_on
        go_big_quiet_want
        go_big_quiet_op
        first | go_big_quiet_on | (refine ⟨.int .u8 (dr : Int), fun wx hx => by simp [go_sem, hrtt], ?_⟩; go_big_quiet_on)
        go_big_quiet_want
        go_big_quiet_op
        first | go_big_quiet_on | (refine ⟨.int .i64 (dr : Int), fun wx hx => by simp [go_sem], ?_⟩; go_big_quiet_on)
        go_big_quiet_want
        go_big_quiet_op
        first | go_big_quiet_on | (refine ⟨.int .i64 ((i : Int) + 2 + (dr : Int)), fun wx hx => by (first | (simp [go_sem]; done) | (simp [go_sem]; omega)), ?_⟩; go_big_quiet_on)
        refine wpQuiet_nil ?_
        refine part_step (s := 1) v1e (by go_simp; exact rfl) (by kernel_rfl) (by kernel_rfl) (fun H wx hs hn hp hc => ?_) ?_
        · obtain ⟨p0, hp0⟩ := Option.isSome_iff_exists.1 (hp 0 (by simp))
          refine callUpon_mk (f := 9) (args := #[.slice (some ⟨b, off, none⟩) n cap, .int .i64 ((i : Int) + 2 + (dr : Int))]) (by simp [go_sem]) ?_
          exact (hihR.out wx (hwx.out wx hc.o)).mono fun e w'' ⟨t, he, h1, h2⟩ => ⟨_, he, hc.right hn hp0 h1 h2⟩
        refine part_chunk [] 2 _ _ _ (by kernel_rfl) (by kernel_rfl) (by decide) ?_
        simp only [List.take_succ_cons, List.take_zero, List.drop_succ_cons, List.drop_zero]
        iterate 2 (go_big_quiet_want; go_big_quiet_op; first | go_big_quiet_on | (refine ⟨_, fun _ _ => rfl, ?_⟩; go_big_quiet_on))
        refine wpQuiet_nil ?_
        refine part_step (s := 2) v2e (by go_simp; exact rfl) (by kernel_rfl) (by kernel_rfl) (fun H wx hs hn hp hc => ?_) ?_
        · have g0 : H 0 = some (.pointer q0) := by
            obtain ⟨x, hx⟩ := Option.isSome_iff_exists.1 (hp 0 (by simp))
            rw [hx, ← v0e, hs 0 x hx]
          obtain ⟨x1, hx1⟩ := Option.isSome_iff_exists.1 (hp 1 (by simp))
          obtain ⟨pl, pr, g, _⟩ := hc.h
          have c1 := g.cell (o := 1) rfl
          have f1 := g.free 1
          exact callUpon_skip (by simp [go_sem, c1, f1]; try rfl) (hc.sto2 g0 hx1 hn)
        refine part_chunk [] 2 _ _ _ (by kernel_rfl) (by kernel_rfl) (by decide) ?_
        simp only [List.take_succ_cons, List.take_zero, List.drop_succ_cons, List.drop_zero]
        iterate 2 (go_big_quiet_want; go_big_quiet_op; first | go_big_quiet_on | (refine ⟨_, fun _ _ => rfl, ?_⟩; go_big_quiet_on))
        refine wpQuiet_nil ?_
        refine part_step (s := 3) v3e (by go_simp; exact rfl) (by kernel_rfl) (by kernel_rfl) (fun H wx hs hn hp hc => ?_) ?_
        · have g1 : H 1 = some (.pointer q1) := by
            obtain ⟨x, hx⟩ := Option.isSome_iff_exists.1 (hp 1 (by simp))
            rw [hx, ← v1e, hs 1 x hx]
          obtain ⟨pl, pr, g, _⟩ := hc.h
          have c2 := g.cell (o := 2) rfl
          have f2 := g.free 2
          exact callUpon_skip (by simp [go_sem, c2, f2]; try rfl) (hc.sto3 g1)
        unfold wpLexP
        intro wy hy
        obtain ⟨_, _, tl2, tr2, _, _, hTl, hTr, hdis, hEy, hoy⟩ := hy.done
        have hnl : ∀ a ∈ tl2.addrs, be ≠ a := fun a ha e => by have := hTl.ge a ha; omega
        have hnr : ∀ a ∈ tr2.addrs, be ≠ a := fun a ha e => by have := hTr.ge a ha; omega
        have hfin := hf.out (.node be o cc ⟨tv, nv, iv, xv, bv⟩ tl2 tr2) wy (by
          refine ⟨⟨hEy, hTl.at', hTr.at'⟩, ⟨rfl, rfl, rfl, hTl.sm, hTr.sm⟩, ?_, fun a ha => ?_⟩
          · simp only [AT.addrs, List.nodup_cons, List.mem_append, not_or]
            exact ⟨⟨fun ha => hnl _ ha rfl, fun ha => hnr _ ha rfl⟩, List.nodup_append.2 ⟨hTl.nd, hTr.nd, fun a ha c hc e => by subst e; exact hdis a ha hc⟩⟩
          · simp only [AT.addrs, List.mem_cons, List.mem_append] at ha
            rcases ha with rfl | ha | ha
            · omega
            · have := hTl.ge a ha; omega
            · have := hTr.ge a ha; omega) (hwx.out wy hoy)
        replace hfin := Lib.hid hfin
        clear hx hy hEy hTl hTr hdis hoy hnl hnr v0e v1e v2e v3e
        replace hzW1 := Lib.hid hzW1
        go_wp2_with fail
        exact hfin.out
      have d2 : ((o : Int) == 2) = false := by simp; omega
      by_cases h3o : o = 3
      · have d3 : ((o : Int) == 3) = true := by simp [h3o]
        rw [if_pos (by omega), if_neg (by omega)] at hf
        replace hf := Lib.hid hf
        have cE0 := hE.cell (o := 0) rfl
        have cX7 := HX.cell (o := 7) rfl
        replace hzW1 := Lib.hid hzW1
        go_wp2_with fail
        refine (hihL.out wz hbwz).mono ?_
        rintro e w2 ⟨t, rfl, hT, hbT⟩
        obtain ⟨q, hq⟩ := t.isP
        rw [hq]
        have hz2 := hbT.size
        have hE2 := hE.only (Only.of_below hbT) (Nat.not_le.2 hE.lt)
        have f1 := hE2.free 1
        have cE1 := hE2.cell (o := 1) rfl
        obtain ⟨w3, hw3⟩ : ∃ w3, w3 = w2.setCell ⟨be, 1, none⟩ (.pointer q) := ⟨_, rfl⟩
        have ho3 : Only (fun k => k = be) w2 w3 := by rw [hw3]; exact (Only.refl (fun k => k = be) w2).setCell (a := ⟨be, 1, none⟩) (fun _ => rfl) _
        have hE3 : Has w3 be (exCells o (.pointer q) (.pointer none) cc ⟨tv, nv, iv, xv, bv⟩) 46 := by rw [hw3]; exact hE2.set 1 (.pointer q)
        rw [← hq] at hE3
        have hnl : ∀ a ∈ t.addrs, be ≠ a := fun a ha e => by have := hT.ge a ha; omega
        have hT3 := hT.only ho3 (fun a ha e => hnl a ha e.symm)
        have hfin := hf.out (.node be o cc ⟨tv, nv, iv, xv, bv⟩ t .nil) w3 (by
          refine ⟨⟨hE3, hT3.at', trivial⟩, ⟨rfl, rfl, rfl, hT3.sm, trivial⟩, ?_, fun a ha => ?_⟩
          · simp only [AT.addrs, List.append_nil, List.nodup_cons]
            exact ⟨fun ha => hnl _ ha rfl, hT.nd⟩
          · simp only [AT.addrs, List.append_nil, List.mem_cons] at ha
            rcases ha with rfl | ha
            · omega
            · have := hT.ge a ha; omega) ((hbwz.trans (hbT.mono hbwz.size)).trans (ho3.below (B := w.heap.size) (by omega) (fun k _ e => by omega)))
        rw [hw3] at hfin
        replace hfin := Lib.hid hfin
        clear hT hbT hE2 ho3 hE3 hnl hT3 hw3
        replace hzW1 := Lib.hid hzW1
        go_wp2_with fail
        exact hfin.out
      have d3 : ((o : Int) == 3) = false := by simp; omega
      have hfin := hf (.node be o cc ⟨tv, nv, iv, xv, bv⟩ .nil .nil) wz (by
        refine ⟨⟨hE, trivial, trivial⟩, ⟨rfl, rfl, rfl, ?_, ?_⟩, by simp [AT.addrs], fun a ha => ?_⟩
        · rw [if_neg (by omega)]; trivial
        · rw [if_neg (by omega)]; trivial
        · simp [AT.addrs] at ha; subst ha; omega) hbwz
      replace hfin := Lib.hid hfin
      have cE0 := hE.cell (o := 0) rfl
      replace hzW1 := Lib.hid hzW1
      go_wp2_with fail
      exact hfin.out
end Go.Proofs.YtgnoikfmhncbmaaGreatDoor
