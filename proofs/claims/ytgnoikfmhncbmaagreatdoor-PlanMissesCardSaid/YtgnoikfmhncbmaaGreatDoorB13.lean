/- Walks: told. -/
import Derived.Test.YtgnoikfmhncbmaaGreatDoorB11
set_option linter.unusedVariables false
set_option linter.unusedSimpArgs false
namespace Go.Proofs.YtgnoikfmhncbmaaGreatDoor
open Go.RowKit
/-- A tree of the reference like t, in blocks at B or behind. -/
def Like (B : Nat) (t : AT) (v : Value) (w : World) : Prop := ∃ u : AT, v = u.ptr ∧ u.RAt w ∧ t.same u ∧ ∀ a ∈ u.addrs, B ≤ a
theorem Like.below {B : Nat} {t : AT} {v : Value} {w w' : World} (h : Like B t v w) (hb : Below w.heap.size w w') : Like B t v w' := by
  obtain ⟨u, h1, h2, h3, h4⟩ := h
  exact ⟨u, h1, h2.below hb, h3, h4⟩
theorem Like.mono {B B' : Nat} {t : AT} {v : Value} {w : World} (h : Like B t v w) (hb : B' ≤ B) : Like B' t v w := by
  obtain ⟨u, h1, h2, h3, h4⟩ := h
  exact ⟨u, h1, h2, h3, fun a ha => Nat.le_trans hb (h4 a ha)⟩
theorem Like.isP {B : Nat} {t : AT} {v : Value} {w : World} (h : Like B t v w) : ∃ p, v = .pointer p := by
  obtain ⟨u, h1, _⟩ := h
  cases u with
  | nil => exact ⟨none, h1⟩
  | node b op c x l r => exact ⟨some ⟨b, 0, none⟩, h1⟩
def TldP (t : AT) (w : World) (e : Ending) (w' : World) : Prop := ∃ v, e = .returned v ∧ Like w.heap.size t v w' ∧ Below w.heap.size w w'
structure TC (w0 : World) (l r : AT) (op : Nat) (col : ByteArray) (v : RV) (H : Nat → Option Value) (w : World) : Prop where
  c0 : ∀ u, H 0 = some u → Like w0.heap.size l u w
  c1 : ∀ u, H 1 = some u → Like w0.heap.size r u w
  c2 : ∀ u, H 2 = some u → u = v.rval
  c3 : ∀ u, H 3 = some u → ∃ p q, H 0 = some p ∧ H 1 = some q ∧ u = .agg (coCells op p q col v).toArray
  c4 : ∀ u, H 4 = some u → ∃ b p q, H 0 = some p ∧ H 1 = some q ∧ u = .pointer (some ⟨b, 0, none⟩) ∧ w0.heap.size ≤ b ∧ Has w b (coCells op p q col v) 97
  b : Below w0.heap.size w0 w
variable {w0 w w' : World} {l r : AT} {op : Nat} {col : ByteArray} {v : RV} {H : Nat → Option Value}
theorem TC.start : TC w0 l r op col v (fun _ => none) w0.drew :=
  ⟨fun v hv => (by cases hv), fun v hv => (by cases hv), fun v hv => (by cases hv), fun v hv => (by cases hv), fun v hv => (by cases hv), (Below.refl _ _).drew⟩
theorem TC.mv (h : TC w0 l r op col v H w) (hb : Below w.heap.size w w') : TC w0 l r op col v H w' :=
  ⟨fun u hu => (h.c0 u hu).below hb, fun u hu => (h.c1 u hu).below hb, h.c2, h.c3, fun u hu => by
    obtain ⟨b, p, q, h1, h2, h3, h4, h5⟩ := h.c4 u hu
    exact ⟨b, p, q, h1, h2, h3, h4, h5.only (Only.of_below hb) (Nat.not_le.2 h5.lt)⟩, h.b.trans (hb.mono h.b.size)⟩
theorem TC.left (h : TC w0 l r op col v H w) (h0 : H 0 = none) {u : Value} (hu : Like w.heap.size l u w') (hb : Below w.heap.size w w') : TC w0 l r op col v (setP H 0 u) w' := by
  have g := h.mv hb
  refine ⟨fun u' e => ?_, g.c1, g.c2, fun u' e => ?_, fun u' e => ?_, g.b⟩
  · cases e; exact hu.mono h.b.size
  · obtain ⟨p, q, h1, _⟩ := g.c3 u' e
    rw [h0] at h1; cases h1
  · obtain ⟨b, p, q, h1, _⟩ := g.c4 u' e
    rw [h0] at h1; cases h1
theorem TC.right (h : TC w0 l r op col v H w) (h0 : H 1 = none) {u : Value} (hu : Like w.heap.size r u w') (hb : Below w.heap.size w w') : TC w0 l r op col v (setP H 1 u) w' := by
  have g := h.mv hb
  refine ⟨g.c0, fun u' e => ?_, g.c2, fun u' e => ?_, fun u' e => ?_, g.b⟩
  · cases e; exact hu.mono h.b.size
  · obtain ⟨p, q, _, h1, _⟩ := g.c3 u' e
    rw [h0] at h1; cases h1
  · obtain ⟨b, p, q, _, h1, _⟩ := g.c4 u' e
    rw [h0] at h1; cases h1
theorem TC.val (h : TC w0 l r op col v H w) (hb : Below w.heap.size w w') : TC w0 l r op col v (setP H 2 v.rval) w' := by
  have g := h.mv hb
  refine ⟨g.c0, g.c1, fun u' e => ?_, fun u' e => g.c3 u' e, fun u' e => g.c4 u' e, g.b⟩
  cases e; rfl
theorem TC.bld {p q : Value} (h : TC w0 l r op col v H w) (hp : H 0 = some p) (hq : H 1 = some q) : TC w0 l r op col v (setP H 3 (.agg (coCells op p q col v).toArray)) w :=
  ⟨h.c0, h.c1, h.c2, fun u' e => by cases e; exact ⟨p, q, hp, hq, rfl⟩, h.c4, h.b⟩
theorem TC.new {p q : Value} (h : TC w0 l r op col v H w) (hp : H 0 = some p) (hq : H 1 = some q) : TC w0 l r op col v (setP H 4 (.pointer (some ⟨w.heap.size, 0, none⟩))) (w.alloc (.cells (coCells op p q col v).toArray 97)) := by
  have g := h.mv ((Below.refl w.heap.size w).alloc (Nat.le_refl _) (.cells (coCells op p q col v).toArray 97))
  refine ⟨g.c0, g.c1, g.c2, g.c3, fun u' e => ?_, g.b⟩
  cases e
  exact ⟨w.heap.size, p, q, hp, hq, rfl, h.b.size, Has.new w (coCells op p q col v) 97⟩
theorem like_nil (B : Nat) : ∀ t : AT, t.nil? = true → ∀ w : World, Like B t t.ptr w
  | .nil, _, w => ⟨.nil, rfl, trivial, trivial, fun a ha => by cases ha⟩
  | .node .., h, _ => by cases h
theorem TC.ex (hl : ∀ w : World, ∃ u w', Like w.heap.size l u w' ∧ Below w.heap.size w w') (hr : ∀ w : World, ∃ u w', Like w.heap.size r u w' ∧ Below w.heap.size w w') (H : Nat → Option Value) (w : World) (h : TC w0 l r op col v H w) (hn : ∃ s, s < 5 ∧ H s = none) : ∃ s u w', s < 5 ∧ H s = none ∧ TC w0 l r op col v (setP H s u) w' := by
  cases h0 : H 0 with
  | none => obtain ⟨u, w', h1, h2⟩ := hl w; exact ⟨0, u, w', by omega, h0, h.left h0 h1 h2⟩
  | some p =>
    cases h1 : H 1 with
    | none => obtain ⟨u, w', h2, h3⟩ := hr w; exact ⟨1, u, w', by omega, h1, h.right h1 h2 h3⟩
    | some q =>
      cases h2 : H 2 with
      | none => exact ⟨2, _, w, by omega, h2, h.val (Below.refl _ _)⟩
      | some x2 =>
        cases h3 : H 3 with
        | none => exact ⟨3, _, w, by omega, h3, h.bld h0 h1⟩
        | some x3 =>
          cases h4 : H 4 with
          | none => exact ⟨4, _, _, by omega, h4, h.new h0 h1⟩
          | some x4 =>
            obtain ⟨s, hs, he⟩ := hn
            exfalso
            match s, hs with
            | 0, _ => rw [h0] at he; cases he
            | 1, _ => rw [h1] at he; cases he
            | 2, _ => rw [h2] at he; cases he
            | 3, _ => rw [h3] at he; cases he
            | 4, _ => rw [h4] at he; cases he
theorem TC.at {Hf : Nat → Value} {nds : List Nat} : clsP (TC w0 l r op col v) Hf nds w → Below w0.heap.size w0 w := fun ⟨_, _, _, h⟩ => h.b
theorem TC.done {Hf : Nat → Value} (h : TC w0 l r op col v (fullP 5 Hf) w) : Hf 2 = v.rval ∧ Hf 3 = .agg (coCells op (Hf 0) (Hf 1) col v).toArray ∧ ∃ b, Hf 4 = .pointer (some ⟨b, 0, none⟩) ∧ w0.heap.size ≤ b ∧ Has w b (coCells op (Hf 0) (Hf 1) col v) 97 ∧ Like w0.heap.size l (Hf 0) w ∧ Like w0.heap.size r (Hf 1) w ∧ Below w0.heap.size w0 w := by
  obtain ⟨b, p, q, h1, h2, h3, h4, h5⟩ := h.c4 (Hf 4) rfl
  obtain ⟨p', q', g1, g2, g3⟩ := h.c3 (Hf 3) rfl
  rw [(Option.some.inj g1).symm, (Option.some.inj g2).symm] at g3
  have e1 : p = Hf 0 := (Option.some.inj h1).symm
  have e2 : q = Hf 1 := (Option.some.inj h2).symm
  rw [e1, e2] at h5
  exact ⟨h.c2 _ rfl, g3, b, h3, h4, h5, h.c0 _ rfl, h.c1 _ rfl, h.b⟩
theorem like_ex : ∀ (t : AT) (w : World), ∃ u w', Like w.heap.size t u w' ∧ Below w.heap.size w w'
  | .nil, w => ⟨_, w, ⟨.nil, rfl, trivial, trivial, fun a ha => by cases ha⟩, Below.refl _ _⟩
  | .node b op col v l r, w => by
    obtain ⟨pl, w1, ⟨ul, e1, a1, s1, n1⟩, b1⟩ := like_ex l w
    obtain ⟨pr, w2, ⟨ur, e2, a2, s2, n2⟩, b2⟩ := like_ex r w1
    have hb := (Below.refl w2.heap.size w2).alloc (Nat.le_refl _) (.cells (coCells op ul.ptr ur.ptr col v).toArray 97)
    have hz1 := b1.size
    have hz2 := b2.size
    refine ⟨_, w2.alloc (.cells (coCells op ul.ptr ur.ptr col v).toArray 97), ⟨.node w2.heap.size op col v ul ur, rfl, ⟨Has.new w2 (coCells op ul.ptr ur.ptr col v) 97, (a1.below b2).below hb, a2.below hb⟩, ⟨rfl, rfl, rfl, s1, s2⟩, fun a ha => ?_⟩, b1.trans ((b2.trans (hb.mono hz2)).mono hz1)⟩
    simp only [AT.addrs, List.mem_cons, List.mem_append] at ha
    rcases ha with rfl | ha | ha
    · omega
    · exact n1 a ha
    · have := n2 a ha; omega
set_option maxHeartbeats 4000000 in
set_option maxRecDepth 100000 in
theorem told_any : ∀ t : AT, t.Fit → ∀ w : World, t.At w → Calls Tryz.prog 13 #[t.ptr] w (TldP t w) := by
  intro t
  induction t with
  | nil =>
    intro hF w hA
    generalize hpost : TldP .nil w = post
    have hf : ∀ w', Below w.heap.size w w' → post (.returned (.pointer none)) w' := fun w' h => by
      rw [← hpost]; exact ⟨_, rfl, ⟨.nil, rfl, trivial, trivial, fun a ha => by cases ha⟩, h⟩
    clear hpost
    replace hf := Lib.hid hf
    unfold AT.ptr
    go_enter Tryz.func13, Tryz.ntmps13
    have hfin := Lib.hid (hf.out w (Below.refl _ _))
    go_wp2_with fail
    exact hfin.out
  | node b op cc v l r ihl ihr =>
    intro hF w hA
    obtain ⟨ho, hc, htv, htx, hFl, hFr⟩ := hF
    obtain ⟨hE, hLt, hRt⟩ := hA
    replace ihl := fun w h => ihl hFl w h
    replace ihr := fun w h => ihr hFr w h
    generalize hpost : TldP (.node b op cc v l r) w = post
    have hf : ∀ u w', Like w.heap.size (.node b op cc v l r) u w' → Below w.heap.size w w' → post (.returned u) w' := fun u w' h1 h2 => by
      rw [← hpost]; exact ⟨_, rfl, h1, h2⟩
    clear hpost
    replace hf := Lib.hid hf
    obtain ⟨pl, hpl⟩ : ∃ pl, pl = l.ptr := ⟨_, rfl⟩
    obtain ⟨pr, hpr⟩ : ∃ pr, pr = r.ptr := ⟨_, rfl⟩
    rw [← hpl, ← hpr] at hE
    rw [← hpl] at ihl
    rw [← hpr] at ihr
    have hv0 : ∀ w : World, Calls Tryz.prog 14 #[v.val] w (RPost w v.rval) := fun w => value_any v.ty v.nl v.n v.tx v.b htv w
    obtain ⟨tv, nv, iv, xv, bv⟩ := v
    dsimp only [RV.val] at hv0
    dsimp only at htv htx
    replace ihl := Lib.hid ihl
    replace ihr := Lib.hid ihr
    replace hv0 := Lib.hid hv0
    replace hpl := Lib.hid hpl
    replace hpr := Lib.hid hpr
    unfold AT.ptr
    go_enter Tryz.func13, Tryz.ntmps13
    replace hE := Lib.hid hE
    go_upto_region 3 with fail
    refine wp_region_part [9, 14, 23, 24, 25] [[], [], [], [0, 1, 2], [3]] [] (TC w l r op cc ⟨tv, nv, iv, xv, bv⟩) (by kernel_rfl) (by kernel_rfl) (by kernel_rfl) TC.start (TC.ex (like_ex l) (like_ex r)) (fun Hf hx => ?_)
    obtain ⟨w', hx⟩ := hx
    obtain ⟨v2e, v3e, bx, v4e, _, _, hl0, hl1, _⟩ := hx.done
    obtain ⟨q0, v0e⟩ := hl0.isP
    obtain ⟨q1, v1e⟩ := hl1.isP
    clear hl0 hl1
    rw [v0e, v1e] at v3e
    unfold coCells at v3e
    dsimp only at v3e
    dsimp only [RV.rval] at v2e
    have hEx : ∀ wx, Below w.heap.size w wx → Has wx b (exCells op pl pr cc ⟨tv, nv, iv, xv, bv⟩) 46 := fun wx h => hE.out.only (Only.of_below h) (Nat.not_le.2 hE.out.lt)
    replace hEx := Lib.hid hEx
    refine part_chunk [] 9 0 _ _ (by kernel_rfl) (by kernel_rfl) (by decide) ?_
    simp only [List.take_succ_cons, List.take_zero, List.drop_succ_cons, List.drop_zero]
    iterate 3 (go_big_quiet_want; go_big_quiet_op; first | go_big_quiet_on | (refine ⟨_, fun _ _ => rfl, ?_⟩; go_big_quiet_on))
    go_big_quiet_want
    go_big_quiet_op
    refine ⟨.int .u8 (op : Int), fun wx hx => by
      have h := hEx.out wx (TC.at hx)
      have q0 := h.cell (o := 0) rfl
      simp [go_sem, q0], ?_⟩
    go_big_quiet_on
    go_big_quiet_want
    go_big_quiet_op
    first | go_big_quiet_on | (refine ⟨.int .i64 (op : Int), fun wx hx => by simp [go_sem], ?_⟩; go_big_quiet_on)
    iterate 3 (go_big_quiet_want; go_big_quiet_op; first | go_big_quiet_on | (refine ⟨_, fun _ _ => rfl, ?_⟩; go_big_quiet_on))
    go_big_quiet_want
    go_big_quiet_op
    refine ⟨pl, fun wx hx => by
      have h := hEx.out wx (TC.at hx)
      have q1 := h.cell (o := 1) rfl
      simp [go_sem, q1], ?_⟩
    go_big_quiet_on
    refine wpQuiet_nil ?_
    refine part_step (s := 0) v0e (by go_simp; exact rfl) (by kernel_rfl) (by kernel_rfl) (fun H wx hs hn hp hc => ?_) ?_
    · refine callUpon_mk (f := 13) (args := #[pl]) (by simp [go_sem]) ?_
      exact (ihl.out wx (hLt.below hc.b)).mono fun e w'' ⟨u, he, h1, h2⟩ => ⟨u, he, hc.left hn h1 h2⟩
    refine part_chunk [] 4 _ _ _ (by kernel_rfl) (by kernel_rfl) (by decide) ?_
    simp only [List.take_succ_cons, List.take_zero, List.drop_succ_cons, List.drop_zero]
    iterate 3 (go_big_quiet_want; go_big_quiet_op; first | go_big_quiet_on | (refine ⟨_, fun _ _ => rfl, ?_⟩; go_big_quiet_on))
    go_big_quiet_want
    go_big_quiet_op
    refine ⟨pr, fun wx hx => by
      have h := hEx.out wx (TC.at hx)
      have q2 := h.cell (o := 2) rfl
      simp [go_sem, q2], ?_⟩
    go_big_quiet_on
    refine wpQuiet_nil ?_
    refine part_step (s := 1) v1e (by go_simp; exact rfl) (by kernel_rfl) (by kernel_rfl) (fun H wx hs hn hp hc => ?_) ?_
    · refine callUpon_mk (f := 13) (args := #[pr]) (by simp [go_sem]) ?_
      exact (ihr.out wx (hRt.below hc.b)).mono fun e w'' ⟨u, he, h1, h2⟩ => ⟨u, he, hc.right hn h1 h2⟩
    refine part_chunk [] 8 _ _ _ (by kernel_rfl) (by kernel_rfl) (by decide) ?_
    simp only [List.take_succ_cons, List.take_zero, List.drop_succ_cons, List.drop_zero]
    iterate 3 (go_big_quiet_want; go_big_quiet_op; first | go_big_quiet_on | (refine ⟨_, fun _ _ => rfl, ?_⟩; go_big_quiet_on))
    go_big_quiet_want
    go_big_quiet_op
    refine ⟨.string cc, fun wx hx => by
      have h := hEx.out wx (TC.at hx)
      have q3 := h.cell (o := 3) rfl
      simp [go_sem, q3], ?_⟩
    go_big_quiet_on
    iterate 3 (go_big_quiet_want; go_big_quiet_op; first | go_big_quiet_on | (refine ⟨_, fun _ _ => rfl, ?_⟩; go_big_quiet_on))
    go_big_quiet_want
    go_big_quiet_op
    refine ⟨.agg #[.int .u8 (tv : Int), .bool nv, .int .i64 iv, .string xv, .bool bv], fun wx hx => by
      have h := hEx.out wx (TC.at hx)
      have q4 := h.cell (o := 4) rfl
      have q5 := h.cell (o := 5) rfl
      have q6 := h.cell (o := 6) rfl
      have q7 := h.cell (o := 7) rfl
      have q8 := h.cell (o := 8) rfl
      simp [go_sem, q4, q5, q6, q7, q8], ?_⟩
    go_big_quiet_on
    refine wpQuiet_nil ?_
    refine part_step (s := 2) v2e (by go_simp; exact rfl) (by kernel_rfl) (by kernel_rfl) (fun H wx hs hn hp hc => ?_) ?_
    · refine callUpon_mk (f := 14) (args := #[.agg #[.int .u8 (tv : Int), .bool nv, .int .i64 iv, .string xv, .bool bv]]) (by simp [go_sem]) ?_
      exact (hv0.out wx).mono fun e w'' ⟨he, h2⟩ => ⟨_, he, hc.val h2⟩
    refine part_step (s := 3) v3e (by go_simp; exact rfl) (by kernel_rfl) (by kernel_rfl) (fun H wx hs hn hp hc => ?_) ?_
    · skip
      have g0 : H 0 = some (.pointer q0) := by
        obtain ⟨x, hx⟩ := Option.isSome_iff_exists.1 (hp 0 (by simp))
        rw [hx, ← v0e, hs 0 x hx]
      have g1 : H 1 = some (.pointer q1) := by
        obtain ⟨x, hx⟩ := Option.isSome_iff_exists.1 (hp 1 (by simp))
        rw [hx, ← v1e, hs 1 x hx]
      exact callUpon_value (by simp [go_sem]; rfl) (hc.bld g0 g1)
    refine part_step (s := 4) v4e (by go_simp; exact rfl) (by kernel_rfl) (by kernel_rfl) (fun H wx hs hn hp hc => ?_) ?_
    · have g3 : H 3 = some (.agg #[.int .i64 (op : Int), .pointer q0, .pointer q1, .string cc, .int .i64 (tv : Int), .bool nv, .int .i64 iv, .string xv, .bool bv]) := by
        obtain ⟨x, hx⟩ := Option.isSome_iff_exists.1 (hp 3 (by simp))
        rw [hx, ← v3e, hs 3 x hx]
      obtain ⟨p, q, g0, g1, _⟩ := hc.c3 _ g3
      have e0 : p = .pointer q0 := by rw [← v0e, hs 0 p g0]
      have e1 : q = .pointer q1 := by rw [← v1e, hs 1 q g1]
      subst e0 e1
      exact callUpon_value (by simp [go_sem]; rfl) (hc.new g0 g1)
    refine part_chunk [] 1 _ _ _ (by kernel_rfl) (by kernel_rfl) (by decide) ?_
    simp only [List.take_succ_cons, List.take_zero, List.drop_succ_cons, List.drop_zero]
    iterate 1 (go_big_quiet_want; go_big_quiet_op; first | go_big_quiet_on | (refine ⟨_, fun _ _ => rfl, ?_⟩; go_big_quiet_on))
    refine wpQuiet_nil ?_
    intro wz hz
    obtain ⟨_, _, bz, e3z, hbz, hHz, hl0, hl1, hBz⟩ := hz.done
    rw [v4e] at e3z
    cases e3z
    rw [v0e] at hl0 hHz
    rw [v1e] at hl1 hHz
    obtain ⟨ul, e1, a1, s1, n1⟩ := hl0
    obtain ⟨ur, e2, a2, s2, n2⟩ := hl1
    rw [e1, e2] at hHz
    have hfin := hf.out _ wz ⟨.node bx op cc ⟨tv, nv, iv, xv, bv⟩ ul ur, rfl, ⟨hHz, a1, a2⟩, ⟨rfl, rfl, rfl, s1, s2⟩, fun a ha => by
      simp only [AT.addrs, List.mem_cons, List.mem_append] at ha
      rcases ha with rfl | ha | ha
      · exact hbz
      · exact n1 a ha
      · exact n2 a ha⟩ hBz
    unfold AT.ptr at hfin
    replace hfin := Lib.hid hfin
    clear hx hz hHz a1 a2
    go_wp2_with fail
    exact hfin.out
end Go.Proofs.YtgnoikfmhncbmaaGreatDoor
