/- Walks: the statement of the laws, of a delete. Walks: the check of a delete, and Make of a delete on the laws' tables. Plain: the law PlanMisses. Walks: the law PlanMisses. -/
import Derived.Test.YtgnoikfmhncbmaaGreatDoorU11
import Derived.Test.YtgnoikfmhncbmaaGreatDoorV5
import Derived.Test.YtgnoikfmhncbmaaGreatDoorB13
import Derived.Test.YtgnoikfmhncbmaaGreatDoorU6
import Derived.Test.YtgnoikfmhncbmaaGreatDoorE3
import Derived.Test.YtgnoikfmhncbmaaGreatDoorU5
set_option linter.unusedVariables false
set_option linter.unusedSimpArgs false
namespace Go.Proofs.YtgnoikfmhncbmaaGreatDoor
open Go.RowKit Go.Lib
def u8C (n : Nat) : List Value := [.int .u8 (n : Int)]
def u8Cells (l : List Nat) : List Value := l.flatMap u8C
theorem u8_get {l : List Nat} {k : Nat} (h : k < l.length) : (u8Cells l)[k]? = some (.int .u8 ((l.getD k 0 : Nat) : Int)) := by
  have := flat_get (f := u8C) (n := 1) (fun _ => rfl) l k _ (get_lt 0 h) 0 _ rfl
  rwa [Nat.mul_one, Nat.add_zero] at this
def qZ : List Value := [.int .u8 0, .string ⟨#[]⟩, .int .u32 0, .slice none 0 0, .slice none 0 0, .pointer none, .string ⟨#[]⟩, .bool false, .int .i64 0, .string ⟨#[]⟩, .int .i64 0, .slice none 0 0, .slice none 0 0, .int .u64 0, .int .u64 0, .bool false]
def rZ : List Value := [.int .i64 0, .string ⟨#[]⟩, .slice none 0 0, .pointer none, .string ⟨#[]⟩, .bool false, .int .i64 0]
def rC (qc p : Value) (od : ByteArray) (ds : Bool) (lm : Int) : List Value := [.int .i64 6, .string ⟨#[116]⟩, qc, p, .string od, .bool ds, .int .i64 lm]
theorem infoRst : (Tryz.prog.info? 82).map (·.size) = some 7 := by kernel_rfl
theorem stm_store {w : World} {b : Nat} {cs new : List Value} (hh : Has w b cs 80) (hl : cs.length = 16) (hn : new.length = 16) (h1 : ∀ v ∈ new, v.oneCell' = true) :
    ∃ w', (Instr.storeAt 80 (.pointer (some ⟨b, 0, none⟩)) (.agg new.toArray)).run Tryz.prog w = .ok () w' ∧ Has w' b new 80 ∧ Only (fun k => k = b) w w' := by
  obtain ⟨g1, g2, g3⟩ := set_all hh (hn.trans hl.symm)
  refine ⟨_, run_storeAt_mid (P := Tryz.prog) w b 0 80 new.toArray (by simpa using g1) (by rw [infoStm]; simp [hn]) (by simpa using h1), by simpa using g2, by simpa using g3⟩
theorem rst_store {w : World} {b : Nat} {cs new : List Value} (hh : Has w b cs 82) (hl : cs.length = 7) (hn : new.length = 7) (h1 : ∀ v ∈ new, v.oneCell' = true) :
    ∃ w', (Instr.storeAt 82 (.pointer (some ⟨b, 0, none⟩)) (.agg new.toArray)).run Tryz.prog w = .ok () w' ∧ Has w' b new 82 ∧ Only (fun k => k = b) w w' := by
  obtain ⟨g1, g2, g3⟩ := set_all hh (hn.trans hl.symm)
  refine ⟨_, run_storeAt_mid (P := Tryz.prog) w b 0 82 new.toArray (by simpa using g1) (by rw [infoRst]; simp [hn]) (by simpa using h1), by simpa using g2, by simpa using g3⟩
theorem results_stm {tmps : Array Value} {w : World} {b2 b3 : Nat} {cs rs : List Value} (h2 : tmps.getD 2 undef = .pointer (some ⟨b2, 0, none⟩)) (h3 : tmps.getD 3 undef = .pointer (some ⟨b3, 0, none⟩)) (hq : Has w b2 cs 80) (hr : Has w b3 rs 82) (hl : cs.length = 16) (hl2 : rs.length = 7) :
    (results Tryz.f24 tmps).run Tryz.prog w = .ok (.tuple #[.agg cs.toArray, .agg rs.toArray]) w := by
  have g2 := run_loadCells_list (P := Tryz.prog) w ⟨b2, 0, none⟩ cs (fun j v hv => news_at hq j v hv)
  have g3 := run_loadCells_list (P := Tryz.prog) w ⟨b3, 0, none⟩ rs (fun j v hv => news_at hr j v hv)
  rw [hl] at g2
  rw [hl2] at g3
  unfold results
  rw [Tryz.results24]
  simp only [List.mapM_toArray, List.mapM_cons, List.mapM_nil, map_eq_pure_bind, bind_assoc, pure_bind, Sem.run_bind, Sem.run_pure, Result.andThen_ok, h2, h3, asAddr, loadVar, Tryz.isAgg80, Tryz.sizeOf80, Tryz.isAgg82, Tryz.sizeOf82, if_true, g2, g3]
  rfl
theorem build_M {o : Oper} {a : Act} {od : ByteArray} {ds : Bool} {lm : Int} {p : Value} (ho : o.op = .build 80 #[(0, .tmp 9), (1, .tmp 11), (5, .tmp 14), (6, .tmp 16), (7, .tmp 18), (8, .tmp 20)])
    (h9 : a.eval (.tmp 9) = .int .u8 6) (h11 : a.eval (.tmp 11) = .string ⟨#[116]⟩) {d : Option Addr} (hp : p = .pointer d) (h14 : a.eval (.tmp 14) = p) (h16 : a.eval (.tmp 16) = .string od) (h18 : a.eval (.tmp 18) = .bool ds) (h20 : a.eval (.tmp 20) = .int .i64 lm) (w : World) :
    (execOp a.eval o).run Tryz.prog w = .ok (.value (.agg (stmtC 6 ⟨#[116]⟩ (.slice none 0 0) p od ds lm).toArray)) w := by
  subst hp
  unfold execOp
  simp only [ho, List.map_toArray, List.map_cons, List.map_nil, h9, h11, h14, h16, h18, h20]
  simp [go_sem, stmtC]
theorem build_N {o : Oper} {a : Act} {od : ByteArray} {ds : Bool} {lm : Int} {qc p : Value} (ho : o.op = .build 82 #[(0, .tmp 43), (1, .tmp 45), (2, .tmp 47), (3, .tmp 50), (4, .tmp 52), (5, .tmp 54), (6, .tmp 56)])
    (h0 : a.eval (.tmp 43) = .int .i64 6) (h1 : a.eval (.tmp 45) = .string ⟨#[116]⟩) {x : Option Addr} {y z : Nat} (hq : qc = .slice x y z) (h2 : a.eval (.tmp 47) = qc) {d : Option Addr} (hp : p = .pointer d) (h3 : a.eval (.tmp 50) = p) (h4 : a.eval (.tmp 52) = .string od) (h5 : a.eval (.tmp 54) = .bool ds) (h6 : a.eval (.tmp 56) = .int .i64 lm) (w : World) :
    (execOp a.eval o).run Tryz.prog w = .ok (.value (.agg (rC qc p od ds lm).toArray)) w := by
  subst hp hq
  unfold execOp
  simp only [ho, List.map_toArray, List.map_cons, List.map_nil, h0, h1, h2, h3, h4, h5, h6]
  simp [go_sem, rC]
/-- Region 1: the tree, a box, the store of the statement. -/
structure SqC (w0 : World) (s : AT) (nc : Value → List Value) (H : Nat → Option Value) (w : World) : Prop where
  c0 : ∀ u, H 0 = some u → ∃ t : AT, u = t.ptr ∧ Tr w0.heap.size s t w ∧ ∀ b, H 1 = some (.pointer (some ⟨b, 0, none⟩)) → b ∉ t.addrs
  c1 : ∀ u, H 1 = some u → ∃ b, u = .pointer (some ⟨b, 0, none⟩) ∧ w0.heap.size ≤ b ∧ Has w b (if (H 2).isSome = true then nc ((H 0).getD undef) else qZ) 80
  c2 : ∀ u, H 2 = some u → u = undef
  c3 : (H 2).isSome = true → (H 0).isSome = true ∧ (H 1).isSome = true
  b : Below w0.heap.size w0 w
section
variable {w0 w w' : World} {s : AT} {nc : Value → List Value} {H : Nat → Option Value}
theorem SqC.start : SqC w0 s nc (fun _ => none) w0.drew := ⟨fun u e => (by cases e), fun u e => (by cases e), fun u e => (by cases e), fun e => (by cases e), (Below.refl _ _).drew⟩
theorem tr_lt : ∀ {t : AT} {w : World}, t.At w → ∀ a ∈ t.addrs, a < w.heap.size
  | .nil, _, _, a, ha => by cases ha
  | .node b op c x l r, w, ⟨h0, h1, h2⟩, a, ha => by
    simp only [AT.addrs, List.mem_cons, List.mem_append] at ha
    rcases ha with rfl | ha | ha
    · exact h0.lt
    · exact tr_lt h1 a ha
    · exact tr_lt h2 a ha
theorem SqC.tree (h : SqC w0 s nc H w) (hn : H 0 = none) {t : AT} (ht : Tr w.heap.size s t w') (hb : Below w.heap.size w w') : SqC w0 s nc (setP H 0 t.ptr) w' := by
  have h2n : H 2 = none := by
    cases h2 : H 2 with
    | none => rfl
    | some x => have := (h.c3 (by rw [h2]; rfl)).1; rw [hn] at this; cases this
  refine ⟨fun u e => ?_, fun u e => ?_, fun u e => h.c2 u e, fun e => ?_, h.b.trans (hb.mono h.b.size)⟩
  · cases e
    refine ⟨t, rfl, ht.mono h.b.size, fun b e hm => ?_⟩
    obtain ⟨b', e1, _, e3⟩ := h.c1 _ e
    cases e1
    have := ht.ge b hm
    have := e3.lt
    omega
  · obtain ⟨b, e1, e2, e3⟩ := h.c1 u e
    refine ⟨b, e1, e2, ?_⟩
    rw [h2n] at e3
    rw [show setP H 0 t.ptr 2 = H 2 from rfl, h2n]
    exact e3.only (Only.of_below hb) (Nat.not_le.2 e3.lt)
  · rw [show setP H 0 t.ptr 2 = H 2 from rfl, h2n] at e; cases e
theorem SqC.new (h : SqC w0 s nc H w) (hn : H 1 = none) : SqC w0 s nc (setP H 1 (.pointer (some ⟨w.heap.size, 0, none⟩))) (w.alloc (.cells qZ.toArray 80)) := by
  have h2n : H 2 = none := by
    cases h2 : H 2 with
    | none => rfl
    | some x => have := (h.c3 (by rw [h2]; rfl)).2; rw [hn] at this; cases this
  refine ⟨fun u e => ?_, fun u e => ?_, fun u e => h.c2 u e, fun e => ?_, h.b.alloc h.b.size _⟩
  · obtain ⟨t, e1, e2, _⟩ := h.c0 u e
    refine ⟨t, e1, e2.below ((Below.refl _ _).alloc (Nat.le_refl _) _), fun b e hm => ?_⟩
    have := tr_lt e2.at' b hm
    cases e
    omega
  · cases e
    refine ⟨_, rfl, h.b.size, ?_⟩
    rw [show setP H 1 (.pointer (some ⟨w.heap.size, 0, none⟩)) 2 = H 2 from rfl, h2n]
    exact Has.new w qZ 80
  · rw [show setP H 1 (.pointer (some ⟨w.heap.size, 0, none⟩)) 2 = H 2 from rfl, h2n] at e; cases e
theorem SqC.sto (h : SqC w0 s nc H w) {b : Nat} {p : Value} (h0 : H 0 = some p) (h1 : H 1 = some (.pointer (some ⟨b, 0, none⟩))) (hh : Has w' b (nc p) 80) (ho : Only (fun k => k = b) w w') : SqC w0 s nc (setP H 2 undef) w' := by
  refine ⟨fun u e => ?_, fun u e => ?_, fun u e => by cases e; rfl, fun _ => ⟨by show (H 0).isSome = true; rw [h0]; rfl, by show (H 1).isSome = true; rw [h1]; rfl⟩, ?_⟩
  · obtain ⟨t, e1, e2, e3⟩ := h.c0 u e
    have hnb := e3 b h1
    exact ⟨t, e1, e2.only ho (fun a ha e => hnb (e ▸ ha)), e3⟩
  · have e' : H 1 = some u := e
    rw [h1] at e'
    cases e'
    obtain ⟨b', e1, e2, _⟩ := h.c1 _ h1
    cases e1
    refine ⟨b, rfl, e2, ?_⟩
    rw [show setP H 2 undef 2 = some undef from rfl, show setP H 2 undef 0 = H 0 from rfl, h0]
    exact hh
  · obtain ⟨b', e1, e2, _⟩ := h.c1 _ h1
    cases e1
    exact h.b.trans (ho.below h.b.size (fun k _ e => by omega))
theorem SqC.at {Hf : Nat → Value} {nds : List Nat} : clsP (SqC w0 s nc) Hf nds w → Below w0.heap.size w0 w := fun ⟨_, _, _, h⟩ => h.b
theorem SqC.done {Hf : Nat → Value} (h : SqC w0 s nc (fullP 3 Hf) w) : Hf 2 = undef ∧ ∃ (t : AT) (b : Nat), Hf 0 = t.ptr ∧ Hf 1 = .pointer (some ⟨b, 0, none⟩) ∧ w0.heap.size ≤ b ∧ b ∉ t.addrs ∧ Tr w0.heap.size s t w ∧ Has w b (nc t.ptr) 80 ∧ Below w0.heap.size w0 w := by
  obtain ⟨t, h1, h2, h3⟩ := h.c0 (Hf 0) rfl
  obtain ⟨b, g1, g2, g3⟩ := h.c1 (Hf 1) rfl
  refine ⟨h.c2 _ rfl, t, b, h1, g1, g2, h3 b (by rw [← g1]; rfl), h2, ?_, h.b⟩
  rw [← h1]; exact g3
theorem SqC.ex (hx : ∀ w, Below w0.heap.size w0 w → ∃ t w', Tr w.heap.size s t w' ∧ Below w.heap.size w w') (hl : ∀ p, (nc p).length = 16) (h1c : ∀ t : AT, ∀ v ∈ nc t.ptr, v.oneCell' = true) (H : Nat → Option Value) (w : World) (h : SqC w0 s nc H w) (hn : ∃ s, s < 3 ∧ H s = none) : ∃ k u w', k < 3 ∧ H k = none ∧ SqC w0 s nc (setP H k u) w' := by
  cases h0 : H 0 with
  | none =>
    obtain ⟨t, w', ht, hb⟩ := hx w h.b
    exact ⟨0, _, w', by omega, h0, h.tree h0 ht hb⟩
  | some u =>
    cases h1 : H 1 with
    | none => exact ⟨1, _, _, by omega, h1, h.new h1⟩
    | some p =>
      obtain ⟨b, rfl, _, hh⟩ := h.c1 p h1
      obtain ⟨t, rfl, _, _⟩ := h.c0 u h0
      cases h2 : H 2 with
      | none =>
        rw [h2] at hh
        obtain ⟨w', _, g1, g2⟩ := stm_store (new := nc t.ptr) hh rfl (hl _) (h1c t)
        exact ⟨2, undef, w', by omega, h2, h.sto h0 h1 g1 g2⟩
      | some x =>
        obtain ⟨k, hk, he⟩ := hn
        match k, hk with
        | 0, _ => rw [h0] at he; cases he
        | 1, _ => rw [h1] at he; cases he
        | 2, _ => rw [h2] at he; cases he
end
/-- Region 8: the reference's condition, the two results. -/
structure RtC (w0 : World) (b2 b3 : Nat) (qc : List Value) (rc : Value → List Value) (H : Nat → Option Value) (w : World) : Prop where
  c0 : ∀ u, H 0 = some u → ∃ p, u = .pointer p
  c1 : Has w b2 (if (H 1).isSome = true then qc else qZ) 80
  c2 : Has w b3 (if (H 2).isSome = true then rc ((H 0).getD undef) else rZ) 82
  u1 : ∀ u, H 1 = some u → u = undef
  u2 : ∀ u, H 2 = some u → u = undef
  d : (H 2).isSome = true → (H 0).isSome = true
  o : Only (fun k => k = b2 ∨ k = b3) w0 w
section
variable {w0 w w' : World} {b2 b3 : Nat} {qc : List Value} {rc : Value → List Value} {H : Nat → Option Value}
theorem RtC.start (hne : b2 ≠ b3) (h2 : Has w0 b2 qZ 80) (h3 : Has w0 b3 rZ 82) : RtC w0 b2 b3 qc rc (fun _ => none) w0.drew :=
  ⟨fun u e => (by cases e), h2.drew, h3.drew, fun u e => (by cases e), fun u e => (by cases e), fun e => (by cases e), (Only.refl _ _).drew⟩
theorem RtC.told (h : RtC w0 b2 b3 qc rc H w) (hn : H 0 = none) (p : Option Addr) (hb : Below w.heap.size w w') : RtC w0 b2 b3 qc rc (setP H 0 (.pointer p)) w' := by
  have h2n : H 2 = none := by
    cases h2 : H 2 with
    | none => rfl
    | some x => have := h.d (by rw [h2]; rfl); rw [hn] at this; cases this
  refine ⟨fun u e => by cases e; exact ⟨p, rfl⟩, ?_, ?_, h.u1, h.u2, fun e => (by rw [show setP H 0 (.pointer p) 2 = H 2 from rfl, h2n] at e; cases e), h.o.trans' (Only.of_below hb) (fun k hk e => by have := h.o.size; omega)⟩
  · exact h.c1.only (Only.of_below hb) (Nat.not_le.2 h.c1.lt)
  · have := h.c2
    rw [h2n] at this
    rw [show setP H 0 (.pointer p) 2 = H 2 from rfl, h2n]
    exact this.only (Only.of_below hb) (Nat.not_le.2 this.lt)
theorem RtC.stoQ (hne : b2 ≠ b3) (h : RtC w0 b2 b3 qc rc H w) (hh : Has w' b2 qc 80) (ho : Only (fun k => k = b2) w w') : RtC w0 b2 b3 qc rc (setP H 1 undef) w' :=
  ⟨h.c0, hh, h.c2.only ho (fun e => hne e.symm), fun u e => by cases e; rfl, h.u2, h.d, h.o.trans' ho (fun k _ e => .inl e)⟩
theorem RtC.stoR (hne : b2 ≠ b3) (h : RtC w0 b2 b3 qc rc H w) {p : Value} (h0 : H 0 = some p) (hh : Has w' b3 (rc p) 82) (ho : Only (fun k => k = b3) w w') : RtC w0 b2 b3 qc rc (setP H 2 undef) w' :=
  ⟨h.c0, h.c1.only ho (fun e => hne e), by
    rw [show setP H 2 undef 2 = some undef from rfl, show setP H 2 undef 0 = H 0 from rfl, h0]; exact hh, h.u1, fun u e => by cases e; rfl, fun _ => by show (H 0).isSome = true; rw [h0]; rfl, h.o.trans' ho (fun k _ e => .inr e)⟩
theorem RtC.at {Hf : Nat → Value} {nds : List Nat} : clsP (RtC w0 b2 b3 qc rc) Hf nds w → Only (fun k => k = b2 ∨ k = b3) w0 w := fun ⟨_, _, _, h⟩ => h.o
theorem RtC.done {Hf : Nat → Value} (h : RtC w0 b2 b3 qc rc (fullP 3 Hf) w) : (∃ p, Hf 0 = .pointer p) ∧ Hf 1 = undef ∧ Hf 2 = undef ∧ Has w b2 qc 80 ∧ Has w b3 (rc (Hf 0)) 82 ∧ Only (fun k => k = b2 ∨ k = b3) w0 w :=
  ⟨h.c0 _ rfl, h.u1 _ rfl, h.u2 _ rfl, h.c1, h.c2, h.o⟩
theorem RtC.ex (hne : b2 ≠ b3) (hq : qc.length = 16) (hq1 : ∀ v ∈ qc, v.oneCell' = true) (hl : ∀ p, (rc p).length = 7) (h1c : ∀ p : Option Addr, ∀ v ∈ rc (.pointer p), v.oneCell' = true) (H : Nat → Option Value) (w : World) (h : RtC w0 b2 b3 qc rc H w) (hn : ∃ s, s < 3 ∧ H s = none) : ∃ k u w', k < 3 ∧ H k = none ∧ RtC w0 b2 b3 qc rc (setP H k u) w' := by
  cases h0 : H 0 with
  | none => exact ⟨0, _, w, by omega, h0, h.told h0 none (Below.refl _ _)⟩
  | some u =>
    obtain ⟨p, rfl⟩ := h.c0 u h0
    cases h1 : H 1 with
    | none =>
      have hh := h.c1
      rw [h1] at hh
      obtain ⟨w', _, g1, g2⟩ := stm_store hh rfl hq hq1
      exact ⟨1, undef, w', by omega, h1, h.stoQ hne g1 g2⟩
    | some x =>
      cases h2 : H 2 with
      | none =>
        have hh := h.c2
        rw [h2] at hh
        obtain ⟨w', _, g1, g2⟩ := rst_store hh rfl (hl _) (h1c p)
        exact ⟨2, undef, w', by omega, h2, h.stoR hne h0 g1 g2⟩
      | some y =>
        obtain ⟨k, hk, he⟩ := hn
        match k, hk with
        | 0, _ => rw [h0] at he; cases he
        | 1, _ => rw [h1] at he; cases he
        | 2, _ => rw [h2] at he; cases he
end
end Go.Proofs.YtgnoikfmhncbmaaGreatDoor

namespace Go.Proofs.YtgnoikfmhncbmaaGreatDoor
open Go.RowKit Go.Lib Go.BigFrame
/-- The loop over the columns. -/
structure QLp (w2 : World) (b : Nat) (qf : Value → List Value) (v : Value) (n : Nat) (xs : List Value) (w : World) : Prop where
  h : Has w b (qf v) 80
  own : w.ownsRow 0 9 1 v n xs
  ob : ∀ j, v.ownBlock = some j → w2.heap.size ≤ j
  o : Only (fun j => j = b ∨ w2.heap.size ≤ j) w2 w
theorem infoStrB : (Tryz.prog.info? 9).map (fun i => (i.zero, i.size, i.bytes)) = some (some (.string ByteArray.empty), 1, 16) := by kernel_rfl
section
variable {w2 w w' : World} {b : Nat} {qf : Value → List Value} {v : Value} {n : Nat} {xs : List Value}
theorem QLp.below (h : QLp w2 b qf v n xs w) (hb : Below w.heap.size w w') : QLp w2 b qf v n xs w' :=
  ⟨h.h.only (Only.of_below hb) (Nat.not_le.2 h.h.lt), ownsRow_only h.own (Only.of_below hb) (fun k hk e => by have := ownsRow_lt h.own hk; omega), h.ob, h.o.trans' (Only.of_below hb) (fun k hk e => by have := h.o.size; omega)⟩
/-- The steps of the append of a column: the load of the list, the column's name, a slice of it, the append, the store. -/
structure ClP (w2 : World) (b : Nat) (qf : Value → List Value) (v : Value) (n : Nat) (xs : List Value) (cn : ByteArray) (H : Nat → Option Value) (w : World) : Prop where
  c0 : ∀ u, H 0 = some u → u = v
  c1 : ∀ u, H 1 = some u → u = .string cn
  c2 : ∀ u, H 2 = some u → ∃ g, u = .slice (some ⟨g, 0, none⟩) 1 1 ∧ (H 3 = none → Has w g [.string cn] 9)
  c3 : ∀ u, H 3 = some u → (∃ sa sc, u = .slice sa (n + 1) sc) ∧ w.ownsRow 0 9 1 u (n + 1) (xs ++ [.string cn]) ∧ ∀ j, u.ownBlock = some j → w2.heap.size ≤ j
  n3 : H 3 = none → w.ownsRow 0 9 1 v n xs
  c4 : ∀ u, H 4 = some u → u = undef
  h : Has w b (if (H 4).isSome = true then qf ((H 3).getD undef) else qf v) 80
  o : Only (fun j => j = b ∨ w2.heap.size ≤ j) w2 w
  d2 : (H 2).isSome = true → (H 1).isSome = true
  d3 : (H 3).isSome = true → (H 0).isSome = true ∧ (H 2).isSome = true
  d4 : (H 4).isSome = true → (H 3).isSome = true
theorem none_of {α : Type} {x y : Option α} (h : x.isSome = true → y.isSome = true) (hn : y = none) : x = none := by
  cases x with
  | none => rfl
  | some a => rw [hn] at h; cases h rfl
section
variable {cn : ByteArray} {H : Nat → Option Value}
theorem ClP.start (h : QLp w2 b qf v n xs w) : ClP w2 b qf v n xs cn (fun _ => none) w :=
  ⟨fun u e => (by cases e), fun u e => (by cases e), fun u e => (by cases e), fun u e => (by cases e), fun _ => h.own, fun u e => (by cases e), h.h, h.o, fun e => (by cases e), fun e => (by cases e), fun e => (by cases e)⟩
theorem ClP.s0 (h : ClP w2 b qf v n xs cn H w) : ClP w2 b qf v n xs cn (setP H 0 v) w :=
  ⟨fun u e => by cases e; rfl, h.c1, h.c2, h.c3, h.n3, h.c4, h.h, h.o, h.d2, fun e => ⟨rfl, (h.d3 e).2⟩, h.d4⟩
theorem ClP.cell (h : ClP w2 b qf v n xs cn H w) (hn : H 0 = none) : Has w b (qf v) 80 := by
  have h3 : H 3 = none := none_of (fun e => (h.d3 e).1) hn
  have h4 : H 4 = none := none_of h.d4 h3
  have := h.h
  rwa [h4] at this
theorem ClP.s1 (h : ClP w2 b qf v n xs cn H w) (hb : Below w.heap.size w w') : ClP w2 b qf v n xs cn (setP H 1 (.string cn)) w' :=
  ⟨h.c0, fun u e => by cases e; rfl, fun u e => by
    obtain ⟨g, h1, h2⟩ := h.c2 u e
    exact ⟨g, h1, fun e3 => (h2 e3).only (Only.of_below hb) (Nat.not_le.2 (h2 e3).lt)⟩, fun u e => by
    obtain ⟨h1, h2, h3⟩ := h.c3 u e
    exact ⟨h1, ownsRow_only h2 (Only.of_below hb) (fun k hk e => by have := ownsRow_lt h2 hk; omega), h3⟩, fun e => ownsRow_only (h.n3 e) (Only.of_below hb) (fun k hk e' => by have := ownsRow_lt (h.n3 e) hk; omega), h.c4,
    h.h.only (Only.of_below hb) (Nat.not_le.2 h.h.lt), h.o.trans' (Only.of_below hb) (fun k hk e => by have := h.o.size; omega), fun _ => rfl, h.d3, h.d4⟩
theorem ClP.s2 (h : ClP w2 b qf v n xs cn H w) (hn : H 2 = none) (h1 : (H 1).isSome = true) : ClP w2 b qf v n xs cn (setP H 2 (.slice (some ⟨w.heap.size, 0, none⟩) 1 1)) (w.alloc (.cells #[.string cn] 9)) := by
  have h3 : H 3 = none := none_of (fun e => (h.d3 e).2) hn
  have hb := (Below.refl w.heap.size w).alloc (Nat.le_refl _) (.cells #[.string cn] 9)
  refine ⟨h.c0, h.c1, fun u e => ?_, fun u e => ?_, fun e => (h.n3 e).alloc _, h.c4, h.h.alloc _, h.o.trans' (Only.of_below hb) (fun k hk e => by have := h.o.size; omega), fun _ => h1, fun _ => ?_, h.d4⟩
  · cases e; exact ⟨_, rfl, fun _ => Has.new w [.string cn] _⟩
  · have e' : H 3 = some u := e
    rw [h3] at e'; cases e'
  · rename_i e
    have e' : (H 3).isSome = true := e
    rw [h3] at e'; cases e'
theorem ClP.s3 (ty : TypeId) (hn : n ≤ 1000) (hv : ∃ sa sc, v = .slice sa n sc) (hob : ∀ j, v.ownBlock = some j → w2.heap.size ≤ j) (hb2 : b < w2.heap.size) (h : ClP w2 b qf v n xs cn H w) (h0 : (H 0).isSome = true) {s : Value} (h2 : H 2 = some s) (h3 : H 3 = none) :
    ∃ y w', (Builtin.append_ #[78, 78] ty #[v, s]).run Tryz.prog w = .ok y w' ∧ (∃ sa sc, y = .slice sa (n + 1) sc) ∧ ClP w2 b qf v n xs cn (setP H 3 y) w' := by
  obtain ⟨g, rfl, hg⟩ := h.c2 s h2
  obtain ⟨sa, sc, rfl⟩ := hv
  obtain ⟨sa', cap, w', hr, o2, o3, o4⟩ := app_run (P := Tryz.prog) w 78 ty 9 _ 1 16 Tryz.underlying78 infoStrB rfl (by decide) (by decide) sa n sc xs (h.n3 h3) ⟨g, 0, none⟩ 1 1 [.string cn] rfl (fun j u hj => news_at (hg h3) j u hj) (by simp [Value.oneCell']) (by omega)
  have h4 : H 4 = none := none_of h.d4 h3
  have hB := h.h
  rw [h4] at hB
  refine ⟨_, w', hr, ⟨sa', cap, rfl⟩, h.c0, h.c1, fun u e => ?_, fun u e => ?_, fun e => (by cases e), h.c4, ?_, h.o.trans' o3 (fun k _ e => .inr (hob k e)), h.d2, fun _ => ⟨h0, by show (H 2).isSome = true; rw [h2]; rfl⟩, fun _ => rfl⟩
  · obtain ⟨g', e1, _⟩ := h.c2 u e
    exact ⟨g', e1, fun e => (by cases e)⟩
  · cases e
    refine ⟨⟨sa', cap, rfl⟩, o2, fun j hj => ?_⟩
    rcases o4 j hj with e | e
    · exact hob j e
    · have := h.o.size; omega
  · show Has w' b (if (H 4).isSome = true then _ else qf (.slice sa n sc)) 80
    rw [h4]
    exact hB.only o3 (fun e => by have := hob _ e; omega)
theorem ClP.s4 (hqf : ∀ y, (qf v).set 3 y = qf y) (hb2 : b < w2.heap.size) (h : ClP w2 b qf v n xs cn H w) {y : Value} (h3 : H 3 = some y) (h4 : H 4 = none) : ClP w2 b qf v n xs cn (setP H 4 undef) (w.setCell ⟨b, 3, none⟩ y) := by
  have hO2 : Only (fun j => j = b) w (w.setCell ⟨b, 3, none⟩ y) := (Only.refl (fun j => j = b) w).setCell (a := ⟨b, 3, none⟩) (fun _ => rfl) _
  have hB := h.h
  rw [h4] at hB
  refine ⟨h.c0, h.c1, fun u e => ?_, fun u e => ?_, fun e => ?_, fun u e => by cases e; rfl, ?_, h.o.trans' hO2 (fun k _ e => .inl e), h.d2, h.d3, fun _ => by show (H 3).isSome = true; rw [h3]; rfl⟩
  · obtain ⟨g', e1, _⟩ := h.c2 u e
    exact ⟨g', e1, fun e => (by have e' : H 3 = none := e; rw [h3] at e'; cases e')⟩
  · obtain ⟨e1, e2, e3⟩ := h.c3 u e
    exact ⟨e1, ownsRow_only e2 hO2 (fun j hj e => by have := e3 j hj; omega), e3⟩
  · have e' : H 3 = none := e
    rw [h3] at e'; cases e'
  · show Has _ b (if (setP H 4 undef 4).isSome = true then qf ((H 3).getD undef) else qf v) 80
    rw [h3]
    show Has _ b (qf y) 80
    rw [← hqf y]
    exact hB.set 3 y
theorem ClP.ex (hn : n ≤ 1000) (hv : ∃ sa sc, v = .slice sa n sc) (hob : ∀ j, v.ownBlock = some j → w2.heap.size ≤ j) (hb2 : b < w2.heap.size) (hqf : ∀ y, (qf v).set 3 y = qf y) (H : Nat → Option Value) (w : World) (h : ClP w2 b qf v n xs cn H w) (hx : ∃ s, s < 5 ∧ H s = none) : ∃ k u w', k < 5 ∧ H k = none ∧ ClP w2 b qf v n xs cn (setP H k u) w' := by
  cases h0 : H 0 with
  | none => exact ⟨0, _, w, by omega, h0, h.s0⟩
  | some u0 =>
    cases h1 : H 1 with
    | none => exact ⟨1, _, w, by omega, h1, h.s1 (Below.refl _ _)⟩
    | some u1 =>
      cases h2 : H 2 with
      | none => exact ⟨2, _, _, by omega, h2, h.s2 h2 (by rw [h1]; rfl)⟩
      | some u2 =>
        cases h3 : H 3 with
        | none =>
          obtain ⟨y, w', _, _, h5⟩ := ClP.s3 0 hn hv hob hb2 h (by rw [h0]; rfl) h2 h3
          exact ⟨3, y, w', by omega, h3, h5⟩
        | some u3 =>
          cases h4 : H 4 with
          | none => exact ⟨4, undef, _, by omega, h4, h.s4 hqf hb2 h3 h4⟩
          | some u4 =>
            obtain ⟨k, hk, he⟩ := hx
            match k, hk with
            | 0, _ => rw [h0] at he; cases he
            | 1, _ => rw [h1] at he; cases he
            | 2, _ => rw [h2] at he; cases he
            | 3, _ => rw [h3] at he; cases he
            | 4, _ => rw [h4] at he; cases he
theorem ClP.done {Hf : Nat → Value} (h : ClP w2 b qf v n xs cn (fullP 5 Hf) w) : Hf 0 = v ∧ Hf 1 = .string cn ∧ (∃ g, Hf 2 = .slice (some ⟨g, 0, none⟩) 1 1) ∧ (∃ sa sc, Hf 3 = .slice sa (n + 1) sc) ∧ Hf 4 = undef ∧ QLp w2 b qf (Hf 3) (n + 1) (xs ++ [.string cn]) w := by
  obtain ⟨g, h2, _⟩ := h.c2 _ rfl
  obtain ⟨h3, h4, h5⟩ := h.c3 _ rfl
  exact ⟨h.c0 _ rfl, h.c1 _ rfl, ⟨g, h2⟩, h3, h.c4 _ rfl, h.h, h4, h5, h.o⟩
end
end
def StP (l : List Nd) (od : ByteArray) (ds : Bool) (lm : Int) (w : World) (e : Ending) (w' : World) : Prop :=
  ∃ (t : AT) (a : Option Addr) (n c : Nat) (p : Option Addr), e = .returned (.tuple #[.agg (stmtC 6 ⟨#[116]⟩ (.slice a n c) t.ptr od ds lm).toArray, .agg (rC (.slice a n c) (.pointer p) od ds lm).toArray]) ∧ Tr w.heap.size (treeO l 24 0) t w' ∧ Below w.heap.size w w'
set_option maxHeartbeats 16000000 in
set_option maxRecDepth 100000 in
theorem statement_any (cl : List Nat) (hcl : ∀ n ∈ cl, n < 256) (hcm : cl.length ≤ 9223372036854775807) (ac : Option Addr) (cc : Nat) (nl : List Nd) (hnl : ∀ x ∈ nl, x.Fit) (aw : Option Addr) (cw : Nat) (od : ByteArray) (ds : Bool) (lm : Int) (w : World) (rdc : Rd w (.slice ac cl.length cc) cl.length (u8Cells cl)) (rdn : Rd w (.slice aw nl.length cw) nl.length (ndCells nl)) :
    Calls Tryz.prog 24 #[.agg #[.int .u8 6, .string ⟨#[116]⟩, .slice ac cl.length cc, .slice aw nl.length cw, .string od, .bool ds, .int .i64 lm]] w (StP nl od ds lm w) := by
  generalize hpost : StP nl od ds lm w = post
  have hfin : ∀ (t : AT) (a : Option Addr) (n c : Nat) (p : Option Addr) w', Tr w.heap.size (treeO nl 24 0) t w' → Below w.heap.size w w' → post (.returned (.tuple #[.agg (stmtC 6 ⟨#[116]⟩ (.slice a n c) t.ptr od ds lm).toArray, .agg (rC (.slice a n c) (.pointer p) od ds lm).toArray])) w' := fun t a n c p w' h1 h2 => by rw [← hpost]; exact ⟨t, a, n, c, p, rfl, h1, h2⟩
  clear hpost
  obtain ⟨m, hm⟩ : ∃ m, cl.length = m := ⟨_, rfl⟩
  obtain ⟨q, hq⟩ : ∃ q, nl.length = q := ⟨_, rfl⟩
  have htr : ∀ wx, Below w.heap.size w wx → Calls Tryz.prog 9 #[.slice aw q cw, .int .i64 0] wx (TreP (treeO nl 24 0) wx) := fun wx hb => by rw [← hq]; exact tree_any nl hnl 24 0 _ wx (rdn.kept hb) (by omega) (by omega)
  have hFt := treeO_fit nl hnl 24 0
  obtain ⟨s0, hs0⟩ : ∃ s0, treeO nl 24 0 = s0 := ⟨_, rfl⟩
  rw [hs0] at htr hFt hfin
  rw [hm] at rdc hcm ⊢
  rw [hq]
  clear rdn hnl
  have hcol : ∀ k, k < m → ∃ bl ol cl', Value.slice ac m cc = .slice (some ⟨bl, ol, none⟩) m cl' ∧ cl.getD k 0 < 256 ∧ ∀ wx, Below w.heap.size w wx → wx.cell? ⟨bl, ol + k, none⟩ = some (.int .u8 ((cl.getD k 0 : Nat) : Int)) := fun k hk => by
    obtain ⟨bl, ol, c2, h1, h2⟩ := rdc.cells (by omega)
    refine ⟨bl, ol, c2, h1, ?_, fun wx hb => cellk hb (h2 k _ (u8_get (by omega)))⟩
    have : cl.getD k 0 = cl[k]'(by omega) := by rw [List.getD, List.getElem?_eq_getElem (by omega)]; rfl
    rw [this]; exact hcl _ (List.getElem_mem _)
  generalize cl.getD = G at hcol
  clear rdc hm hq hs0 hcl
  replace htr := Lib.hid htr
  replace hFt := Lib.hid hFt
  replace hfin := Lib.hid hfin
  replace hcol := Lib.hid hcol
  obtain ⟨W1, hW1⟩ : ∃ W1, W1 = ((w.alloc (.cells #[.int .u8 6, .string ⟨#[116]⟩, .slice ac m cc, .slice aw q cw, .string od, .bool ds, .int .i64 lm] 76)).alloc (.cells #[.int .u8 0, .string ⟨#[]⟩, .int .u32 0, .slice none 0 0, .slice none 0 0, .pointer none, .string ⟨#[]⟩, .bool false, .int .i64 0, .string ⟨#[]⟩, .int .i64 0, .slice none 0 0, .slice none 0 0, .int .u64 0, .int .u64 0, .bool false] 80)).alloc (.cells #[.int .i64 0, .string ⟨#[]⟩, .slice none 0 0, .pointer none, .string ⟨#[]⟩, .bool false, .int .i64 0] 82) := ⟨_, rfl⟩
  have HS : Has W1 w.heap.size [.int .u8 6, .string ⟨#[116]⟩, .slice ac m cc, .slice aw q cw, .string od, .bool ds, .int .i64 lm] 76 := by rw [hW1]; exact ((Has.new w _ _).alloc _).alloc _
  have HQ : Has W1 (w.heap.size + 1) qZ 80 := by rw [hW1]; have h := Has.new (w.alloc (.cells #[.int .u8 6, .string ⟨#[116]⟩, .slice ac m cc, .slice aw q cw, .string od, .bool ds, .int .i64 lm] 76)) qZ 80; simp only [World.size_alloc] at h; exact h.alloc _
  have HR : Has W1 (w.heap.size + 1 + 1) rZ 82 := by rw [hW1]; have h := Has.new ((w.alloc (.cells #[.int .u8 6, .string ⟨#[116]⟩, .slice ac m cc, .slice aw q cw, .string od, .bool ds, .int .i64 lm] 76)).alloc (.cells qZ.toArray 80)) rZ 82; simp only [World.size_alloc] at h; exact h
  have hb1 : Below w.heap.size w W1 := by rw [hW1]; exact (((Below.refl _ _).alloc (Nat.le_refl _) _).alloc (by simp) _).alloc (by simp; omega) _
  have hz1 : W1.heap.size = w.heap.size + 1 + 1 + 1 := by rw [hW1]; simp
  replace hW1 := Lib.hid hW1.symm
  replace HS := Lib.hid HS
  replace HQ := Lib.hid HQ
  replace HR := Lib.hid HR
  replace hb1 := Lib.hid hb1
  replace hz1 := Lib.hid hz1
  have htr1 := Lib.hid (fun wx (hb : Below W1.heap.size W1 wx) => htr.out wx (hb1.out.trans (hb.mono hb1.out.size)))
  go_enter Tryz.func24, Tryz.ntmps24
  go_upto_region 1 with fail
  rw [hW1.out]
  go_cut [4] (fun pq wx => ∃ (b : Nat) (t : AT), pq = .pointer (some ⟨b, 0, none⟩) ∧ W1.heap.size ≤ b ∧ b ∉ t.addrs ∧ Tr W1.heap.size s0 t wx ∧ Has wx b (stmtC 6 ⟨#[116]⟩ (.slice none 0 0) t.ptr od ds lm) 80 ∧ Below W1.heap.size W1 wx)
  case first =>
    as_aux_lemma =>
      have hone : ∀ t : AT, ∀ v ∈ stmtC 6 ⟨#[116]⟩ (.slice none 0 0) t.ptr od ds lm, v.oneCell' = true := fun t => by
        obtain ⟨pt, hpt⟩ := AT.isP t
        rw [hpt]; simp [stmtC, Value.oneCell']
      have hex : ∀ wx, Below W1.heap.size W1 wx → ∃ t w', Tr wx.heap.size s0 t w' ∧ Below wx.heap.size wx w' := fun wx hb => by
        obtain ⟨e, w', t, _, h1, h2⟩ := Calls.ex (htr1.out wx hb)
        exact ⟨t, w', h1, h2⟩
      refine wp_region_part [7, 15, 16] [[], [], [0, 1]] [] (SqC W1 s0 (fun p => stmtC 6 ⟨#[116]⟩ (.slice none 0 0) p od ds lm)) (by kernel_rfl) (by kernel_rfl) (by kernel_rfl) SqC.start (SqC.ex hex (fun _ => rfl) hone) (fun Hf hx => ?_)
      obtain ⟨w', hx⟩ := hx
      obtain ⟨v2e, t, b, v0e, v1e, _⟩ := hx.done
      clear hx
      have kS : ∀ {nds : List Nat} {wx : World}, clsP (SqC W1 s0 (fun p => stmtC 6 ⟨#[116]⟩ (.slice none 0 0) p od ds lm)) Hf nds wx → Has wx w.heap.size [.int .u8 6, .string ⟨#[116]⟩, .slice ac m cc, .slice aw q cw, .string od, .bool ds, .int .i64 lm] 76 := fun h => by
        have hb := SqC.at h
        exact HS.out.only (Only.of_below hb) (Nat.not_le.2 HS.out.lt)
      refine part_chunk [] 7 0 _ _ (by kernel_rfl) (by kernel_rfl) (by decide) ?_
      simp only [List.take_succ_cons, List.take_zero, List.drop_succ_cons, List.drop_zero]
      iterate 1 (go_big_quiet_want; go_big_quiet_op; first | go_big_quiet_on | (refine ⟨_, fun _ _ => rfl, ?_⟩; go_big_quiet_on))
      go_big_quiet_want; go_big_quiet_op
      refine ⟨.int .u8 6, fun wx hx => by simp [go_sem, (kS hx).cell (o := 0) rfl], ?_⟩
      go_big_quiet_on
      go_big_quiet_want; go_big_quiet_op
      refine ⟨.int .u8 6, fun wx hx => by first | rfl | (simp [go_sem]; done), ?_⟩
      go_big_quiet_on
      iterate 1 (go_big_quiet_want; go_big_quiet_op; first | go_big_quiet_on | (refine ⟨_, fun _ _ => rfl, ?_⟩; go_big_quiet_on))
      go_big_quiet_want; go_big_quiet_op
      refine ⟨.string ⟨#[116]⟩, fun wx hx => by simp [go_sem, (kS hx).cell (o := 1) rfl], ?_⟩
      go_big_quiet_on
      iterate 1 (go_big_quiet_want; go_big_quiet_op; first | go_big_quiet_on | (refine ⟨_, fun _ _ => rfl, ?_⟩; go_big_quiet_on))
      go_big_quiet_want; go_big_quiet_op
      refine ⟨.slice aw q cw, fun wx hx => by simp [go_sem, (kS hx).cell (o := 3) rfl], ?_⟩
      go_big_quiet_on
      refine wpQuiet_nil ?_
      refine part_step (s := 0) v0e (by go_simp; exact rfl) (by kernel_rfl) (by kernel_rfl) (fun H wx hs hn hp hc => ?_) ?_
      · refine callUpon_mk (f := 9) (args := #[.slice aw q cw, .int .i64 0]) (by simp [go_sem]) ?_
        exact (htr1.out wx hc.b).mono fun e w'' ⟨t', he, h1, h2⟩ => ⟨_, he, hc.tree hn h1 h2⟩
      refine part_chunk [] 6 _ _ _ (by kernel_rfl) (by kernel_rfl) (by decide) ?_
      simp only [List.take_succ_cons, List.take_zero, List.drop_succ_cons, List.drop_zero]
      iterate 1 (go_big_quiet_want; go_big_quiet_op; first | go_big_quiet_on | (refine ⟨_, fun _ _ => rfl, ?_⟩; go_big_quiet_on))
      go_big_quiet_want; go_big_quiet_op
      refine ⟨.string od, fun wx hx => by simp [go_sem, (kS hx).cell (o := 4) rfl], ?_⟩
      go_big_quiet_on
      iterate 1 (go_big_quiet_want; go_big_quiet_op; first | go_big_quiet_on | (refine ⟨_, fun _ _ => rfl, ?_⟩; go_big_quiet_on))
      go_big_quiet_want; go_big_quiet_op
      refine ⟨.bool ds, fun wx hx => by simp [go_sem, (kS hx).cell (o := 5) rfl], ?_⟩
      go_big_quiet_on
      iterate 1 (go_big_quiet_want; go_big_quiet_op; first | go_big_quiet_on | (refine ⟨_, fun _ _ => rfl, ?_⟩; go_big_quiet_on))
      go_big_quiet_want; go_big_quiet_op
      refine ⟨.int .i64 lm, fun wx hx => by simp [go_sem, (kS hx).cell (o := 6) rfl], ?_⟩
      go_big_quiet_on
      refine wpQuiet_nil ?_
      refine part_pure (v := .agg (stmtC 6 ⟨#[116]⟩ (.slice none 0 0) t.ptr od ds lm).toArray) (by go_simp; exact rfl) (by kernel_rfl) (by kernel_rfl) (fun wx => build_M rfl rfl rfl (AT.isP t).choose_spec rfl rfl rfl rfl wx) ?_
      refine part_step (s := 1) v1e (by go_simp; exact rfl) (by kernel_rfl) (by kernel_rfl) (fun H wx hs hn hp hc => ?_) ?_
      · exact callUpon_value (by simp [go_sem, qZ]; try rfl) (hc.new hn)
      refine part_step (s := 2) v2e (by go_simp; exact rfl) (by kernel_rfl) (by kernel_rfl) (fun H wx hs hn hp hc => ?_) ?_
      · obtain ⟨u0, hu0⟩ : ∃ u, H 0 = some u := Option.isSome_iff_exists.1 (hp 0 (by simp))
        obtain ⟨u1, hu1⟩ : ∃ u, H 1 = some u := Option.isSome_iff_exists.1 (hp 1 (by simp))
        obtain rfl : u0 = t.ptr := by rw [← v0e]; exact subP_eq hs hu0
        obtain rfl : u1 = .pointer (some ⟨b, 0, none⟩) := by rw [← v1e]; exact subP_eq hs hu1
        obtain ⟨b2, e1, e2, hh⟩ := hc.c1 _ hu1
        cases e1
        have hn2 : H 2 = none := hn
        rw [hn2] at hh
        obtain ⟨w2, g0, g1, g2⟩ := stm_store (new := stmtC 6 ⟨#[116]⟩ (.slice none 0 0) t.ptr od ds lm) hh rfl rfl (hone t)
        exact callUpon_storeA (.tmp 4) (.tmp 21) 80 rfl g0 (hc.sto hu0 hu1 g1 g2)
      intro wz hz
      obtain ⟨_, tz, bz, e0, e1, g1, g2, g3, g4, g5⟩ := hz.done
      rw [v1e] at e1
      cases e1
      replace g3 := Lib.hid g3
      replace g4 := Lib.hid g4
      replace g5 := Lib.hid g5
      replace g2 := Lib.hid g2
      clear hz kS hex hone
      go_wp2_with fail
      go_meet
      exact ⟨b, tz, rfl, g1, g2.out, g3.out, g4.out, g5.out⟩
  case rest =>
    rename World => w2
    obtain ⟨b, t, rfl, hbb, hbt, hT, HB, hb2⟩ := hcut
    have hbw2 := hb1.out.trans (hb2.mono hb1.out.size)
    have HS2 := HS.out.only (Only.of_below hb2) (Nat.not_le.2 HS.out.lt)
    have HQ2 := HQ.out.only (Only.of_below hb2) (Nat.not_le.2 HQ.out.lt)
    have HR2 := HR.out.only (Only.of_below hb2) (Nat.not_le.2 HR.out.lt)
    clear hb1 HS HQ HR htr htr1 hW1
    obtain ⟨ptv, hptv⟩ : ∃ p, t.ptr = .pointer p := AT.isP t
    have hb2s := HB.lt
    have hz1o := hz1.out
    have hQ0 : QLp w2 b (fun v => stmtC 6 ⟨#[116]⟩ v t.ptr od ds lm) (.slice none 0 0) 0 [] w2 := ⟨HB, ⟨rfl, .inl ⟨rfl, rfl⟩⟩, fun j hj => (by cases hj), Only.refl _ _⟩
    have c2 := HS2.cell (o := 2) rfl
    replace hT := Lib.hid hT
    replace HB := Lib.hid HB
    replace HS2 := Lib.hid HS2
    replace HQ2 := Lib.hid HQ2
    replace HR2 := Lib.hid HR2
    replace hbw2 := Lib.hid hbw2
    replace hbt := Lib.hid hbt
    replace hQ0 := Lib.hid hQ0
    replace hptv := Lib.hid hptv
    clear hb2
    as_aux_lemma =>
      go_wp2_with fail
      go_loopw [25] (fun iv wr => ∃ (k n : Nat) (sa : Option Addr) (sc : Nat) (xs : List Value), k ≤ m ∧ iv = .int .i64 (k : Int) ∧ n ≤ k ∧ n ≤ 8 ∧ QLp w2 b (fun v => stmtC 6 ⟨#[116]⟩ v t.ptr od ds lm) (.slice sa n sc) n xs wr) (fun iv _ => m - (RowKit.intOf iv).toNat)
      case atStart => exact ⟨0, 0, none, 0, [], by omega, rfl, by omega, by omega, hQ0.out⟩
      case round =>
        clear hQ0 c2 HB
        obtain ⟨k, n, sa, sc, xs, hk, rfl, hnk, hn8, hQ⟩ := hrel
        by_cases hlt : ¬ (k < m)
        · have hkn : k = m := by omega
          subst hkn
          have k1 : ¬ (k : Int) < (k : Int) := by omega
          have kd : decide ((k : Int) < (k : Int)) = false := decide_eq_false k1
          have hO := hQ.o
          have HBr := hQ.h
          have HQr := HQ2.out.only hO (fun e => by omega)
          have HRr := HR2.out.only hO (fun e => by have := HR2.out.lt; omega)
          have hTr : Tr W1.heap.size s0 t wr := hT.out.only hO (fun a ha e => by
            have h1 := tr_lt hT.out.at' a ha
            rcases e with rfl | e
            · exact hbt.out ha
            · omega)
          have hbwr : Below w.heap.size w wr := hbw2.out.trans (hO.below (B := w.heap.size) hbw2.out.size (fun j _ e => by have := hbw2.out.size; omega))
          clear HQ2 HR2 hT hbw2 hQ HS2
          replace HBr := Lib.hid HBr
          replace HQr := Lib.hid HQr
          replace HRr := Lib.hid HRr
          replace hTr := Lib.hid hTr
          replace hbwr := Lib.hid hbwr
          clear hO hcol
          go_upto_region 8 with fail
          have hne : w.heap.size + 1 ≠ w.heap.size + 1 + 1 := by omega
          have hone : ∀ v ∈ stmtC 6 ⟨#[116]⟩ (.slice sa n sc) t.ptr od ds lm, v.oneCell' = true := by
            rw [hptv.out]; simp [stmtC, Value.oneCell']
          refine wp_region_part [10, 18, 19] [[], [], [0, 1]] [] (RtC wr (w.heap.size + 1) (w.heap.size + 1 + 1) (stmtC 6 ⟨#[116]⟩ (.slice sa n sc) t.ptr od ds lm) (fun p => rC (.slice sa n sc) p od ds lm)) (by kernel_rfl) (by kernel_rfl) (by kernel_rfl) (RtC.start hne HQr.out HRr.out) (RtC.ex hne rfl hone (fun _ => rfl) (fun p => by simp [rC, Value.oneCell'])) (fun Hf hx => ?_)
          obtain ⟨w', hx⟩ := hx
          obtain ⟨⟨pp, v0e⟩, v1e, v2e, _⟩ := hx.done
          clear hx
          have kB : ∀ {wx : World}, Only (fun k => k = w.heap.size + 1 ∨ k = w.heap.size + 1 + 1) wr wx → Has wx b (stmtC 6 ⟨#[116]⟩ (.slice sa n sc) t.ptr od ds lm) 80 ∧ Tr W1.heap.size s0 t wx := fun h => by
            refine ⟨HBr.out.only h (fun e => by omega), hTr.out.only h (fun a ha e => by have := hTr.out.ge a ha; omega)⟩
          have kC : ∀ {nds : List Nat} {wx : World}, clsP (RtC wr (w.heap.size + 1) (w.heap.size + 1 + 1) (stmtC 6 ⟨#[116]⟩ (.slice sa n sc) t.ptr od ds lm) (fun p => rC (.slice sa n sc) p od ds lm)) Hf nds wx → Has wx b (stmtC 6 ⟨#[116]⟩ (.slice sa n sc) (.pointer ptv) od ds lm) 80 := fun h => by
            have := (kB (RtC.at h)).1
            rwa [hptv.out] at this
          refine part_chunk [] 10 0 _ _ (by kernel_rfl) (by kernel_rfl) (by decide) ?_
          simp only [List.take_succ_cons, List.take_zero, List.drop_succ_cons, List.drop_zero]
          go_big_quiet_want; go_big_quiet_op
          refine ⟨.agg (stmtC 6 ⟨#[116]⟩ (.slice sa n sc) (.pointer ptv) od ds lm).toArray, fun wx hx => by simp [go_sem, stmtC, (kC hx).cell (o := 0) rfl, (kC hx).cell (o := 1) rfl, (kC hx).cell (o := 2) rfl, (kC hx).cell (o := 3) rfl, (kC hx).cell (o := 4) rfl, (kC hx).cell (o := 5) rfl, (kC hx).cell (o := 6) rfl, (kC hx).cell (o := 7) rfl, (kC hx).cell (o := 8) rfl, (kC hx).cell (o := 9) rfl, (kC hx).cell (o := 10) rfl, (kC hx).cell (o := 11) rfl, (kC hx).cell (o := 12) rfl, (kC hx).cell (o := 13) rfl, (kC hx).cell (o := 14) rfl, (kC hx).cell (o := 15) rfl], ?_⟩
          go_big_quiet_on
          iterate 1 (go_big_quiet_want; go_big_quiet_op; first | go_big_quiet_on | (refine ⟨_, fun _ _ => rfl, ?_⟩; go_big_quiet_on))
          go_big_quiet_want; go_big_quiet_op
          refine ⟨.int .u8 6, fun wx hx => by simp [go_sem, (kC hx).cell (o := 0) rfl], ?_⟩
          go_big_quiet_on
          go_big_quiet_want; go_big_quiet_op
          refine ⟨.int .i64 6, fun wx hx => by first | rfl | (simp [go_sem]; done), ?_⟩
          go_big_quiet_on
          iterate 1 (go_big_quiet_want; go_big_quiet_op; first | go_big_quiet_on | (refine ⟨_, fun _ _ => rfl, ?_⟩; go_big_quiet_on))
          go_big_quiet_want; go_big_quiet_op
          refine ⟨.string ⟨#[116]⟩, fun wx hx => by simp [go_sem, (kC hx).cell (o := 1) rfl], ?_⟩
          go_big_quiet_on
          iterate 1 (go_big_quiet_want; go_big_quiet_op; first | go_big_quiet_on | (refine ⟨_, fun _ _ => rfl, ?_⟩; go_big_quiet_on))
          go_big_quiet_want; go_big_quiet_op
          refine ⟨.slice sa n sc, fun wx hx => by simp [go_sem, (kC hx).cell (o := 3) rfl], ?_⟩
          go_big_quiet_on
          iterate 1 (go_big_quiet_want; go_big_quiet_op; first | go_big_quiet_on | (refine ⟨_, fun _ _ => rfl, ?_⟩; go_big_quiet_on))
          go_big_quiet_want; go_big_quiet_op
          refine ⟨.pointer ptv, fun wx hx => by simp [go_sem, (kC hx).cell (o := 5) rfl], ?_⟩
          go_big_quiet_on
          refine wpQuiet_nil ?_
          refine part_step (s := 0) v0e (by go_simp; exact rfl) (by kernel_rfl) (by kernel_rfl) (fun H wx hs hn hp hc => ?_) ?_
          · refine callUpon_mk (f := 13) (args := #[.pointer ptv]) (by simp [go_sem]) ?_
            have ht := told_any t (fit_same (kB hc.o).2.sm hFt.out) wx (kB hc.o).2.at'
            rw [hptv.out] at ht
            exact ht.mono fun e w'' ⟨v, he, h1, h2⟩ => by
              obtain ⟨p2, rfl⟩ := h1.isP
              exact ⟨_, he, hc.told hn p2 h2⟩
          refine part_chunk [] 6 _ _ _ (by kernel_rfl) (by kernel_rfl) (by decide) ?_
          simp only [List.take_succ_cons, List.take_zero, List.drop_succ_cons, List.drop_zero]
          iterate 1 (go_big_quiet_want; go_big_quiet_op; first | go_big_quiet_on | (refine ⟨_, fun _ _ => rfl, ?_⟩; go_big_quiet_on))
          go_big_quiet_want; go_big_quiet_op
          refine ⟨.string od, fun wx hx => by simp [go_sem, (kC hx).cell (o := 6) rfl], ?_⟩
          go_big_quiet_on
          iterate 1 (go_big_quiet_want; go_big_quiet_op; first | go_big_quiet_on | (refine ⟨_, fun _ _ => rfl, ?_⟩; go_big_quiet_on))
          go_big_quiet_want; go_big_quiet_op
          refine ⟨.bool ds, fun wx hx => by simp [go_sem, (kC hx).cell (o := 7) rfl], ?_⟩
          go_big_quiet_on
          iterate 1 (go_big_quiet_want; go_big_quiet_op; first | go_big_quiet_on | (refine ⟨_, fun _ _ => rfl, ?_⟩; go_big_quiet_on))
          go_big_quiet_want; go_big_quiet_op
          refine ⟨.int .i64 lm, fun wx hx => by simp [go_sem, (kC hx).cell (o := 8) rfl], ?_⟩
          go_big_quiet_on
          refine wpQuiet_nil ?_
          refine part_pure (v := .agg (rC (.slice sa n sc) (.pointer pp) od ds lm).toArray) (by go_simp; exact rfl) (by kernel_rfl) (by kernel_rfl) (fun wx => build_N rfl rfl rfl rfl rfl rfl rfl rfl rfl rfl wx) ?_
          refine part_step (s := 1) v1e (by go_simp; exact rfl) (by kernel_rfl) (by kernel_rfl) (fun H wx hs hn hp hc => ?_) ?_
          · have hh := hc.c1
            have hn1 : H 1 = none := hn
            rw [hn1] at hh
            obtain ⟨w3, g0, g1, g2⟩ := stm_store (new := stmtC 6 ⟨#[116]⟩ (.slice sa n sc) (.pointer ptv) od ds lm) hh rfl rfl (by rw [← hptv.out]; exact hone)
            refine callUpon_storeA (.tmp 2) (.tmp 40) 80 rfl g0 (hc.stoQ hne ?_ g2)
            rw [hptv.out]; exact g1
          refine part_step (s := 2) v2e (by go_simp; exact rfl) (by kernel_rfl) (by kernel_rfl) (fun H wx hs hn hp hc => ?_) ?_
          · obtain ⟨u0, hu0⟩ : ∃ u, H 0 = some u := Option.isSome_iff_exists.1 (hp 0 (by simp))
            obtain rfl : u0 = .pointer pp := by rw [← v0e]; exact subP_eq hs hu0
            have hh := hc.c2
            have hn2 : H 2 = none := hn
            rw [hn2] at hh
            obtain ⟨w3, g0, g1, g2⟩ := rst_store (new := rC (.slice sa n sc) (.pointer pp) od ds lm) hh rfl rfl (by simp [rC, Value.oneCell'])
            exact callUpon_storeA (.tmp 3) (.tmp 57) 82 rfl g0 (hc.stoR hne hu0 g1 g2)
          intro wz hz
          obtain ⟨_, _, _, z1, z2, z3⟩ := hz.done
          rw [v0e] at z2
          have hfn := hfin.out t sa n sc pp wz ((kB z3).2.mono (by have := hbwr.out.size; omega)) (hbwr.out.trans (z3.below hbwr.out.size (fun j _ e => by omega)))
          replace z1 := Lib.hid z1
          replace z2 := Lib.hid z2
          replace hfn := Lib.hid hfn
          clear hz kB kC v0e v1e v2e hone z3
          go_wp2_with fail
          exact bodyPost_ret (results_stm rfl rfl z1.out z2.out rfl rfl) rfl hfn.out
        replace hlt := Classical.not_not.1 hlt
        have k1 : (k : Int) < (m : Int) := by omega
        have kw := Lib.hid (show wrap64 ((k : Int) + 1) = ((k + 1 : Nat) : Int) from by unfold wrap64; omega)
        have kd : decide ((k : Int) < (m : Int)) = true := decide_eq_true k1
        have k0 : (0 : Int) ≤ (k : Int) := by omega
        obtain ⟨bl, ol, c2', e1, g256, hc⟩ := hcol.out k hlt
        simp only [Value.slice.injEq, true_and] at e1
        obtain ⟨rfl, rfl⟩ := e1
        have ck := hc wr (hbw2.out.trans (hQ.o.below (B := w.heap.size) hbw2.out.size (fun j _ e => by have := hbw2.out.size; omega)))
        obtain ⟨g, hg⟩ : ∃ g, G k 0 = g := ⟨_, rfl⟩
        rw [hg] at ck g256
        clear hg hc
        have hcl := Lib.hid (fun wx => column_any g g256 wx)
        obtain ⟨cn, hcn⟩ : ∃ cn, colN g = cn := ⟨_, rfl⟩
        rw [hcn] at hcl
        clear hcn g256
        replace hQ := Lib.hid hQ
        by_cases h8 : ¬ (k < 8)
        · have k8 : decide ((k : Int) < 8) = false := decide_eq_false (by omega)
          replace h8 := Lib.hid h8
          go_wp2_with fail
          first | rw [kw.out] | skip
          go_roundw
          case rel => exact ⟨k + 1, n, sa, sc, xs, by omega, rfl, by omega, hn8, hQ.out⟩
          case measure => simp [RowKit.intOf]; omega
        have k8 : decide ((k : Int) < 8) = true := decide_eq_true (by omega)
        have h8k : n + 1 ≤ k + 1 ∧ n + 1 ≤ 8 := by omega
        replace h8 := Lib.hid h8
        replace h8k := Lib.hid h8k
        go_upto_region 6 with fail
        have hn1k : n ≤ 1000 := by have := h8k.out; omega
        have hvv : ∃ a c, Value.slice sa n sc = .slice a n c := ⟨_, _, rfl⟩
        have hqf : ∀ y, ((fun v => stmtC 6 ⟨#[116]⟩ v t.ptr od ds lm) (.slice sa n sc)).set 3 y = (fun v => stmtC 6 ⟨#[116]⟩ v t.ptr od ds lm) y := fun y => rfl
        refine wp_region_part [1, 3, 4, 5, 7] [[], [], [1], [0, 2], [3]] [] (ClP w2 b (fun v => stmtC 6 ⟨#[116]⟩ v t.ptr od ds lm) (.slice sa n sc) n xs cn) (by kernel_rfl) (by kernel_rfl) (by kernel_rfl) (ClP.start (show QLp _ _ _ _ _ _ wr.drew from hQ.out.below (below_drew (Below.refl _ _)))) (ClP.ex hn1k hvv hQ.out.ob hb2s hqf) (fun Hf hx => ?_)
        obtain ⟨w', hx⟩ := hx
        obtain ⟨v0e, v1e, ⟨gq, v2e⟩, ⟨sa2, sc2, v3e⟩, v4e, _⟩ := hx.done
        clear hx
        obtain ⟨n1, hn1⟩ : ∃ n1, n + 1 = n1 := ⟨_, rfl⟩
        rw [hn1] at v3e
        refine part_chunk [] 1 0 _ _ (by kernel_rfl) (by kernel_rfl) (by decide) ?_
        simp only [List.take_succ_cons, List.take_zero, List.drop_succ_cons, List.drop_zero]
        iterate 1 (go_big_quiet_want; go_big_quiet_op; first | go_big_quiet_on | (refine ⟨_, fun _ _ => rfl, ?_⟩; go_big_quiet_on))
        refine wpQuiet_nil ?_
        refine part_step (s := 0) v0e (by go_simp; exact rfl) (by kernel_rfl) (by kernel_rfl) (fun H wx hs hn hp hc => ?_) ?_
        · have q3 := (hc.cell hn).cell (o := 3) rfl
          exact callUpon_value (by simp [go_sem, q3]; try rfl) hc.s0
        refine part_chunk [] 1 _ _ _ (by kernel_rfl) (by kernel_rfl) (by decide) ?_
        simp only [List.take_succ_cons, List.take_zero, List.drop_succ_cons, List.drop_zero]
        iterate 1 (go_big_quiet_want; go_big_quiet_op; first | go_big_quiet_on | (refine ⟨_, fun _ _ => rfl, ?_⟩; go_big_quiet_on))
        refine wpQuiet_nil ?_
        refine part_step (s := 1) v1e (by go_simp; exact rfl) (by kernel_rfl) (by kernel_rfl) (fun H wx hs hn hp hc => ?_) ?_
        · refine callUpon_mk (f := 11) (args := #[.int .u8 (g : Int)]) (by simp [go_sem]) ?_
          exact (hcl.out wx).mono fun e w'' ⟨he, h2⟩ => ⟨_, he, hc.s1 h2⟩
        refine part_step (s := 2) v2e (by go_simp; exact rfl) (by kernel_rfl) (by kernel_rfl) (fun H wx hs hn hp hc => ?_) ?_
        · exact callUpon_value (by simp [go_sem]; try rfl) (hc.s2 hn (hp 1 (by simp)))
        refine part_step (s := 3) v3e (by go_simp; exact rfl) (by kernel_rfl) (by kernel_rfl) (fun H wx hs hn hp hc => ?_) ?_
        · obtain ⟨u2, hu2⟩ : ∃ u, H 2 = some u := Option.isSome_iff_exists.1 (hp 2 (by simp))
          obtain rfl : u2 = .slice (some ⟨gq, 0, none⟩) 1 1 := by rw [← v2e]; exact subP_eq hs hu2
          obtain ⟨y, w3, hr, _, h5⟩ := ClP.s3 78 hn1k hvv hQ.out.ob hb2s hc (hp 0 (by simp)) hu2 hn
          exact callUpon_app (.tmp 33) (.tmp 36) 78 rfl hr h5
        refine part_chunk [] 1 _ _ _ (by kernel_rfl) (by kernel_rfl) (by decide) ?_
        simp only [List.take_succ_cons, List.take_zero, List.drop_succ_cons, List.drop_zero]
        iterate 1 (go_big_quiet_want; go_big_quiet_op; first | go_big_quiet_on | (refine ⟨_, fun _ _ => rfl, ?_⟩; go_big_quiet_on))
        refine wpQuiet_nil ?_
        refine part_step (s := 4) v4e (by go_simp; exact rfl) (by kernel_rfl) (by kernel_rfl) (fun H wx hs hn hp hc => ?_) ?_
        · obtain ⟨u3, hu3⟩ : ∃ u, H 3 = some u := Option.isSome_iff_exists.1 (hp 3 (by simp))
          obtain rfl : u3 = .slice sa2 n1 sc2 := by rw [← v3e]; exact subP_eq hs hu3
          have hn4 : H 4 = none := hn
          have hh := hc.h
          rw [hn4] at hh
          have q3 := hh.cell (o := 3) rfl
          have f3 := hh.free 3
          exact callUpon_skip (by simp [go_sem, q3, f3]; try rfl) (hc.s4 hqf hb2s hu3 hn4)
        intro wz hz
        obtain ⟨_, _, _, _, _, hQz⟩ := hz.done
        rw [v3e, hn1] at hQz
        replace hQz := Lib.hid hQz
        clear hz v0e v1e v2e v3e v4e hQ hcl
        go_wp2_with fail
        first | rw [kw.out] | skip
        go_roundw
        case rel => exact ⟨k + 1, n1, sa2, sc2, _, by omega, rfl, by have := h8k.out; omega, by have := h8k.out; omega, hQz.out⟩
        case measure => simp [RowKit.intOf]; omega
end Go.Proofs.YtgnoikfmhncbmaaGreatDoor

namespace Go.Proofs.YtgnoikfmhncbmaaGreatDoor
open Go.RowKit
set_option maxHeartbeats 4000000 in
set_option maxRecDepth 100000 in
theorem pcheck_del {w : World} {K : List Nat} {ca : Option Addr} {cc : Nat} {ia : Option Addr} {ic : Nat} {root : AT} (h : TblAt w K ca cc ia ic) (hr : TreeAt w root) (hE : Env w) (qc : Value) (od : ByteArray) (ds : Bool) (lm : Int) : Calls Tryz.prog 45 #[tabI tagS 1 ca 4 cc ia K.length ic, stmtV 6 tagS qc root.ptr od ds lm] w (RPost w (.int .i64 ((checkP (colsT 4) root : Nat) : Int))) := by
  generalize hpost : RPost w (.int .i64 ((checkP (colsT 4) root : Nat) : Int)) = post
  have hf : ∀ (k : Nat) w', checkP (colsT 4) root = k → Below w.heap.size w w' → post (.returned (.int .i64 (k : Int))) w' := fun k w' h1 h2 => by rw [← hpost, h1]; exact ⟨rfl, h2⟩
  clear hpost
  have hval := fun w' (hb : Below w.heap.size w w') => valid_T h.k ca cc ia ic w' (h.kept hb).c (h.kept hb).i (hE.below hb)
  have hchk := fun w' (hb : Below w.heap.size w w') => check_T (h.kept hb) (hr.below hb)
  have hfnd := fun w' (hb : Below w.heap.size w w') => find_ix tagS 1 (colsT 4) ca cc ia K.length ic (colN 0) 0 (findT 0 (by omega)) w' (by rw [colsT_len]; exact (h.kept hb).c) (by rw [colsT_len]; omega)
  rw [colsT_len] at hfnd
  have hod : ((colN 0).toList == []) = false ∧ ((colN 0).toList == [105, 100]) = false := ⟨by have : ((colN 0).toList == (⟨#[]⟩ : ByteArray).toList) = false := (by rw [str_eq]; decide); rwa [ByteArray.toList_eq ⟨#[]⟩] at this, by have : ((colN 0).toList == (colN 4).toList) = false := nm_eq 0 4 (by omega) (by omega); rwa [show (colN 4).toList = [105, 100] from idS_l] at this⟩
  obtain ⟨hod1, hod2⟩ := hod
  generalize colN 0 = oS at *
  obtain ⟨tg, htg⟩ : ∃ tg, tagS = tg := ⟨_, rfl⟩
  rw [htg] at hval hchk hfnd ⊢
  obtain ⟨m, hm⟩ : ∃ m, K.length = m := ⟨_, rfl⟩
  rw [hm] at hval hchk hfnd ⊢
  obtain ⟨ce, hce⟩ : ∃ ce, checkP (colsT 4) root = ce := ⟨_, rfl⟩
  rw [hce] at hchk hf
  obtain ⟨pt, hpt⟩ : ∃ pt, root.ptr = .pointer pt := AT.isP root
  rw [hpt] at hchk ⊢
  clear h hr hE
  unfold stmtV stmtC
  try dsimp only
  obtain ⟨W2, hW2⟩ : ∃ W2, W2 = (w.alloc (.cells #[.string tg, .int .i64 1, .slice ca 4 cc, .slice ia m ic, .int .u64 0, .int .u64 0] 59)).alloc (.cells #[.int .u8 6, .string tg, .int .u32 0, qc, .slice none 0 0, .pointer pt, .string od, .bool ds, .int .i64 lm, .string ⟨#[]⟩, .int .i64 0, .slice none 0 0, .slice none 0 0, .int .u64 0, .int .u64 0, .bool false] 80) := ⟨_, rfl⟩
  have hb2 : Below w.heap.size w W2 := by rw [hW2]; exact ((Below.refl _ _).alloc (Nat.le_refl _) _).alloc (by simp) _
  have HT : Has W2 w.heap.size [.string tg, .int .i64 1, .slice ca 4 cc, .slice ia m ic, .int .u64 0, .int .u64 0] 59 := by rw [hW2]; exact (Has.new w _ _).alloc _
  have HS : Has W2 (w.heap.size + 1) [.int .u8 6, .string tg, .int .u32 0, qc, .slice none 0 0, .pointer pt, .string od, .bool ds, .int .i64 lm, .string ⟨#[]⟩, .int .i64 0, .slice none 0 0, .slice none 0 0, .int .u64 0, .int .u64 0, .bool false] 80 := by
    have := Has.new (w.alloc (.cells #[.string tg, .int .i64 1, .slice ca 4 cc, .slice ia m ic, .int .u64 0, .int .u64 0] 59)) [.int .u8 6, .string tg, .int .u32 0, qc, .slice none 0 0, .pointer pt, .string od, .bool ds, .int .i64 lm, .string ⟨#[]⟩, .int .i64 0, .slice none 0 0, .slice none 0 0, .int .u64 0, .int .u64 0, .bool false] 80
    simp only [World.size_alloc] at this; rw [hW2]; exact this
  have hz2 : W2.heap.size = w.heap.size + 1 + 1 := by rw [hW2]; simp
  replace hW2 := Lib.hid hW2.symm
  have hval2 := hval W2 hb2
  replace hval := Lib.hid hval
  replace hval2 := Lib.hid hval2
  replace hchk := Lib.hid hchk
  replace hfnd := Lib.hid hfnd
  replace htg := Lib.hid htg
  replace hm := Lib.hid hm
  replace hce := Lib.hid hce
  replace hpt := Lib.hid hpt
  replace hf := Lib.hid hf
  replace hz2 := Lib.hid hz2
  have t0a := (HT).cell (o := 0) rfl
  have t1a := (HT).cell (o := 1) rfl
  have t2a := (HT).cell (o := 2) rfl
  have t3a := (HT).cell (o := 3) rfl
  have t4a := (HT).cell (o := 4) rfl
  have t5a := (HT).cell (o := 5) rfl
  have s0a := (HS).cell (o := 0) rfl
  have s1a := (HS).cell (o := 1) rfl
  have s2a := (HS).cell (o := 2) rfl
  have s3a := (HS).cell (o := 3) rfl
  have s4a := (HS).cell (o := 4) rfl
  have s5a := (HS).cell (o := 5) rfl
  have s6a := (HS).cell (o := 6) rfl
  have s7a := (HS).cell (o := 7) rfl
  have s8a := (HS).cell (o := 8) rfl
  clear hod1 hod2
  go_enter Tryz.func45, Tryz.ntmps45
  go_upto_region 1 with fail
  rw [hW2.out]
  go_wp2_with fail
  refine hval2.out.mono ?_
  rintro e w3 ⟨rfl, hb3⟩
  clear t0a t1a t2a t3a t4a t5a s0a s1a s2a s3a s4a s5a s6a s7a s8a
  have HT3 := HT.only (Only.of_below hb3) (Nat.not_le.2 HT.lt)
  have HS3 := HS.only (Only.of_below hb3) (Nat.not_le.2 HS.lt)
  have hbw3 := hb2.trans (hb3.mono hb2.size)
  have hc3 := hchk.out w3 hbw3
  replace hc3 := Lib.hid hc3
  replace hbw3 := Lib.hid hbw3
  have hz3 := hb3.size
  clear hb3 HT HS
  have t0b := (HT3).cell (o := 0) rfl
  have t1b := (HT3).cell (o := 1) rfl
  have t2b := (HT3).cell (o := 2) rfl
  have t3b := (HT3).cell (o := 3) rfl
  have t4b := (HT3).cell (o := 4) rfl
  have t5b := (HT3).cell (o := 5) rfl
  have s0b := (HS3).cell (o := 0) rfl
  have s1b := (HS3).cell (o := 1) rfl
  have s2b := (HS3).cell (o := 2) rfl
  have s3b := (HS3).cell (o := 3) rfl
  have s4b := (HS3).cell (o := 4) rfl
  have s5b := (HS3).cell (o := 5) rfl
  have s6b := (HS3).cell (o := 6) rfl
  have s7b := (HS3).cell (o := 7) rfl
  have s8b := (HS3).cell (o := 8) rfl
  have hee : (tg.toList != tg.toList) = false := by simp
  go_wp2_with fail
  refine hc3.out.mono ?_
  rintro e w4 ⟨rfl, hb4⟩
  clear t0b t1b t2b t3b t4b t5b s0b s1b s2b s3b s4b s5b s6b s7b s8b
  have HT4 := HT3.only (Only.of_below hb4) (Nat.not_le.2 HT3.lt)
  have HS4 := HS3.only (Only.of_below hb4) (Nat.not_le.2 HS3.lt)
  have hbw4 := hbw3.out.trans (hb4.mono hbw3.out.size)
  by_cases h0 : ce = 0
  · subst h0
    have t0c := (HT4).cell (o := 0) rfl
    have t1c := (HT4).cell (o := 1) rfl
    have t2c := (HT4).cell (o := 2) rfl
    have t3c := (HT4).cell (o := 3) rfl
    have t4c := (HT4).cell (o := 4) rfl
    have t5c := (HT4).cell (o := 5) rfl
    have s0c := (HS4).cell (o := 0) rfl
    have s1c := (HS4).cell (o := 1) rfl
    have s2c := (HS4).cell (o := 2) rfl
    have s3c := (HS4).cell (o := 3) rfl
    have s4c := (HS4).cell (o := 4) rfl
    have s5c := (HS4).cell (o := 5) rfl
    have s6c := (HS4).cell (o := 6) rfl
    have s7c := (HS4).cell (o := 7) rfl
    have s8c := (HS4).cell (o := 8) rfl
    have hfin := Lib.hid (hf.out 0 w4 rfl hbw4)
    have e0 : (((0 : Nat) : Int) != 0) = false := rfl
    clear hb4 HT4 HS4 HT3 HS3
    go_wp2_with fail
    exact hfin.out
  · have e0 : (((ce : Nat) : Int) != 0) = true := by simp; exact h0
    have hfin := Lib.hid (hf.out ce w4 rfl hbw4)
    replace h0 := Lib.hid h0
    clear hb4 HT4 HS4 HT3 HS3
    go_wp2_with fail
    exact hfin.out
theorem make_del {w : World} {K : List Nat} {ca : Option Addr} {cc : Nat} {ia : Option Addr} {ic : Nat} {root : AT} (h : TblAt w K ca cc ia ic) (hr : TreeAt w root) (hE : Env w) (qc : Value) (od : ByteArray) (ds : Bool) (lm : Int) (post : Ending → World → Prop)
    (hp0 : checkP (colsT 4) root ≠ 0 → ∀ w', Below w.heap.size w w' → post (.returned (.tuple #[.agg #[.int .u8 0, .string ⟨#[]⟩, .int .u8 0, .bool false, .int .i64 0, .string ⟨#[]⟩, .bool false, .int .u8 0, .bool false, .int .i64 0, .string ⟨#[]⟩, .bool false, .int .u32 0, .int .u32 0, .pointer none, .string ⟨#[]⟩, .bool false, .int .i64 0], .int .i64 ((checkP (colsT 4) root : Nat) : Int)])) w')
    (hp1 : checkP (colsT 4) root = 0 → ∀ w', Below w.heap.size w w' → post (.returned (.tuple #[.agg (planCells (planD (fun c => bndP c root) (nmK K) (tyK K) K.length) (idsP (bndP idS root).lo (bndP idS root).hi) root.ptr ⟨#[]⟩ false (-1)).toArray, .int .i64 0])) w') :
    Calls Tryz.prog 25 #[tabI tagS 1 ca 4 cc ia K.length ic, stmtV 6 tagS qc root.ptr od ds lm] w post := by
  obtain ⟨pt, hpt⟩ : ∃ pt, root.ptr = .pointer pt := AT.isP root
  have hbd : ∀ col wx, Below w.heap.size w wx → Calls Tryz.prog 10 #[.pointer pt, .string col] wx (RPost wx (bndV (bndP col root))) := fun col wx hb => by
    rw [← hpt]; exact bounds_any root col wx (hr.below hb).at' hr.nd hr.fit hr.sz (hE.below hb)
  have hB : ∀ col, (bndP col root).Bd := fun col => bndP.bd col hr.fit
  rw [hpt] at hp1 ⊢
  exact make_w (w := w) tagS ca ia cc K.length ic qc pt od ds lm (checkP (colsT 4) root) post (fun c => bndP c root) (nmK K) (tyK K) (posK K) h.k.four 6 ⟨#[]⟩ false (-1) (.inr ⟨rfl, rfl, rfl, rfl⟩)
    (fun wx hb => by have := pcheck_del (h.kept hb) (hr.below hb) (hE.below hb) qc od ds lm; rw [hpt] at this; exact this)
    (fun wx hb => hbd idS wx hb) (fun j _ wx hb => hbd (nmK K j) wx hb)
    (fun j hj wx hb => by have := find_ix tagS 1 (colsT 4) ca cc ia K.length ic (nmK K j) (posK K j) (findT _ (h.k.pos hj)) wx (by rw [colsT_len]; exact (h.kept hb).c) (by rw [colsT_len]; omega); rw [colsT_len] at this; exact this)
    (fun j hj wx hb => single_any _ _ (tyK K j) (hB _).1.2.1 (hB _).2.2.1 wx (hE.below hb))
    (fun j hj wx hb => ranged_any _ _ (tyK K j) (hB _).1.2.1 (hB _).2.2.1 wx (hE.below hb))
    h.ix h.ct hp0 hp1
end Go.Proofs.YtgnoikfmhncbmaaGreatDoor

namespace Go.Proofs.YtgnoikfmhncbmaaGreatDoor
open Go.RowKit Go.Lib
theorem ids_in {n : Int} {lo hi : RV} (hn : 0 ≤ n ∧ n ≤ 4294967295) (h : in4 n lo hi = true) : (idsP lo hi).1 ≤ n ∧ n ≤ (idsP lo hi).2 := by
  unfold in4 at h
  rw [Bool.and_eq_true, Bool.or_eq_true, Bool.or_eq_true, decide_eq_true_eq, decide_eq_true_eq] at h
  have h1 : firstP lo ≤ n := by
    unfold firstP
    split
    · omega
    · rename_i g
      have := h.1.resolve_left g
      split <;> omega
  have h2 : n ≤ lastP hi := by
    unfold lastP
    split
    · omega
    · rename_i g
      have := h.2.resolve_left g
      split <;> omega
  unfold idsP
  rw [if_neg (by omega)]
  exact ⟨h1, h2⟩
theorem cmp_okB {a b : RV} (h : cmpE a b = 0) : okB a = true ∧ okB b = true := by
  obtain ⟨_, ha, hb, _⟩ := cmpE_zero h
  unfold okB
  rw [(cmpE_ok ha ha rfl).1, (cmpE_ok hb hb rfl).1]
  simp
theorem key_okB {v : RV} (h : usableP v = true) : okB v = true := by
  unfold usableP at h
  unfold okB
  rw [Bool.or_eq_true] at h ⊢
  refine h.imp id (fun q => ?_)
  have : keyE v = 0 := by simpa using q
  unfold keyE at this
  split at this
  · rename_i g; rw [(cmpE_ok g g rfl).1]; simp
  · cases this
theorem fit_okB {B : ByteArray → Sp} {nm : Nat → ByteArray} {ty : Nat → Nat} {q j : Nat} (h : fitI B nm ty q j = true) : okB (B (nm j)).lo = true ∧ okB (B (nm j)).hi = true ∧ ((B (nm j)).lo.nl = false ∨ (B (nm j)).hi.nl = false) := by
  unfold fitI at h
  split at h
  · unfold singleP at h
    rw [Bool.and_eq_true, Bool.and_eq_true] at h
    obtain ⟨h1, h2, h3⟩ := h
    have g := cmp_okB (of_decide_eq_true h2)
    refine ⟨g.1, g.2, .inl ?_⟩
    cases hl : (B (nm j)).lo.nl
    · rfl
    · rw [hl] at h1; cases h1
  · unfold rangedP at h
    rw [Bool.and_eq_true, Bool.and_eq_true, Bool.and_eq_true, Bool.or_eq_true] at h
    obtain ⟨⟨⟨h1, h2⟩, h3⟩, h4⟩ := h
    refine ⟨key_okB h3, key_okB h4, h2.imp ?_ ?_⟩ <;> intro e <;> simpa using e
theorem find_some {p : Nat → Bool} {m j : Nat} (h : (List.range m).find? p = some j) : j < m ∧ p j = true := ⟨List.mem_range.1 (List.mem_of_find?_eq_some h), List.find?_some h⟩
theorem planD_three {B : ByteArray → Sp} {nm : Nat → ByteArray} {ty : Nat → Nat} {m : Nat} (h : (planD B nm ty m).path = 3) : ∃ j q, j < m ∧ fitI B nm ty q j = true ∧ planD B nm ty m = ofI B nm j := by
  unfold planD at h ⊢
  split at h
  · cases h
  · rename_i g
    rw [if_neg g]
    split at h
    · rename_i j hj
      obtain ⟨h1, h2⟩ := find_some hj
      exact ⟨j, 0, h1, h2, rfl⟩
    · split at h
      · rename_i j hj
        obtain ⟨h1, h2⟩ := find_some hj
        exact ⟨j, 1, h1, h2, rfl⟩
      · cases h
theorem first_ix : ∀ (cs : List IX) (s : ByteArray) (j : Nat), j < cs.length → ((cs.getD j IX0).nm.toList == s.toList) = true → ∃ k : Nat, k ≤ j ∧ IndexIs cs s (k : Int)
  | cs, s, j => by
    induction j using Nat.strongRecOn with
    | _ j ih =>
      intro hj he
      by_cases h : ∃ i, i < j ∧ ((cs.getD i IX0).nm.toList == s.toList) = true
      · obtain ⟨i, hi, hs⟩ := h
        obtain ⟨k, hk, hI⟩ := ih i hi (by omega) hs
        exact ⟨k, by omega, hI⟩
      · refine ⟨j, Nat.le_refl _, .inr ⟨j, hj, rfl, he, fun i hi => ?_⟩⟩
        cases hs : ((cs.getD i IX0).nm.toList == s.toList)
        · rfl
        · exact absurd ⟨i, hi, hs⟩ h
theorem ix_K {K : List Nat} {j : Nat} (hj : j < K.length) (hK : DigOk K) : ∃ k : Nat, k < 4 ∧ IndexIs (K.map ixK) (nmK K j) (k : Int) := by
  have hg : (K.map ixK).getD j IX0 = ⟨nmK K j, false⟩ := by
    simp only [List.getD, List.getElem?_map, List.getElem?_eq_getElem hj, Option.map_some, Option.getD_some, nmK, posK, ixK]
  have hp := hK.pos hj
  obtain ⟨k, hk, hI⟩ := first_ix (K.map ixK) (nmK K j) j (by rw [List.length_map]; exact hj) (by rw [hg]; show ((colN (posK K j)).toList == (colN (posK K j)).toList) = true; rw [nm_eq _ _ (by omega) (by omega)]; simp)
  have := hK.four
  exact ⟨k, by omega, hI⟩
/-- What the law asks of a plan of a row for which the condition is true. -/
theorem miss_plain {K : List Nat} (hK : DigOk K) {s : AT} (hw : wfP (colsT 4) s) {LL : List RV} (id : Nat) (hid : id < 4294967296)
    (hG : ∀ k, k < 4 → (LL.getD k RV0).ty = tyC k ∧ ((LL.getD k RV0).nl = false → formP (LL.getD k RV0) = 0)) (hz : evB (colsT 4) LL id s = true) :
    ((idsP (bndP idS s).lo (bndP idS s).hi).1 ≤ (id : Int) ∧ (id : Int) ≤ (idsP (bndP idS s).lo (bndP idS s).hi).2) ∧
    ((planD (fun c => bndP c s) (nmK K) (tyK K) K.length).path = 3 → ∃ p k : Nat, p < 4 ∧ k < 4 ∧ (planD (fun c => bndP c s) (nmK K) (tyK K) K.length).col = colN p ∧ IndexIs (K.map ixK) (colN p) (k : Int) ∧
      withinP (LL.getD p RV0) (planD (fun c => bndP c s) (nmK K) (tyK K) K.length).lo (planD (fun c => bndP c s) (nmK K) (tyK K) K.length).hi = true) := by
  have hev : s.nil? = false → evP (colV (colsT 4) LL id) s = 2 := fun hn => by
    unfold evB at hz; rw [hn] at hz; simpa using hz
  constructor
  · refine ids_in (by omega) ?_
    cases s with
    | nil => rfl
    | node b op c x l r => exact holds_id1 (kind_col 4 (by decide)) (colV (colsT 4) LL id) (colV_id _ LL id) hw (hev rfl)
  · intro h3
    obtain ⟨j, q, hj, hf, he⟩ := planD_three h3
    have hp := hK.pos hj
    obtain ⟨k, hk, hI⟩ := ix_K hj hK
    refine ⟨posK K j, k, hp, hk, by rw [he]; rfl, hI, ?_⟩
    rw [he]
    show withinP (LL.getD (posK K j) RV0) (bndP (nmK K j) s).lo (bndP (nmK K j) s).hi = true
    obtain ⟨o1, o2, hne⟩ := fit_okB hf
    have hsn : s.nil? = false := by
      cases s with
      | nil => rcases hne with h | h <;> cases h
      | node _ _ _ _ _ _ => rfl
    obtain ⟨q1, q3⟩ := hG (posK K j) hp
    have hkind := kind_col (posK K j) (by omega)
    rw [← q1] at hkind
    exact holds_row1 hkind (colV (colsT 4) LL id) (colV_col LL id _ hp) rfl q3 hw o1 o2 hne (hev hsn)
end Go.Proofs.YtgnoikfmhncbmaaGreatDoor

namespace Go.Proofs.YtgnoikfmhncbmaaGreatDoor
open Go.RowKit Go.Lib Go.BigFrame
theorem findI_ex (cs : List CV) (s : ByteArray) : ∃ r, FindIs cs s r := by
  have key : ∀ n, n ≤ cs.length → (∀ j, j < n → ((cs.getD j CV0).nm.toList == s.toList) = false) ∨ ∃ k, k < n ∧ ((cs.getD k CV0).nm.toList == s.toList) = true ∧ ∀ j, j < k → ((cs.getD j CV0).nm.toList == s.toList) = false := by
    intro n
    induction n with
    | zero => intro _; exact .inl (fun j hj => by omega)
    | succ n ih =>
      intro hn
      rcases ih (by omega) with h | ⟨k, hk, h⟩
      · cases hx : ((cs.getD n CV0).nm.toList == s.toList)
        · refine .inl (fun j hj => ?_)
          by_cases e : j = n
          · rw [e]; exact hx
          · exact h j (by omega)
        · exact .inr ⟨n, by omega, hx, h⟩
      · exact .inr ⟨k, by omega, h⟩
  rcases key cs.length (Nat.le_refl _) with h | ⟨k, hk, h1, h2⟩
  · exact ⟨-1, .inl ⟨rfl, h⟩⟩
  · exact ⟨k, .inr ⟨k, hk, rfl, h1, h2⟩⟩
/-- The values of the last region's steps. -/
def MsL (pk : Nat) (ki : Int) (v : Value) (b : Nat) : List Value := [.int .i64 ki, .bool true, .slice (some ⟨b, 0, none⟩) 4 4, .pointer (some ⟨b, pk * 5, none⟩), v, .bool true]
def MsC (w0 : World) (LL : List RV) (F : Nat → List Value) (vs : List Value) (w : World) : Prop := Below w0.heap.size w0 w ∧ ∃ b, vs = (F b).take vs.length ∧ (2 < vs.length → Has w b (vCells LL) 28)
section
variable {w0 w w' : World} {LL : List RV} {pk : Nat} {ki : Int} {v : Value} {vs : List Value} {Hf : Nat → Value} {bq : Nat}
theorem MsC.start (w0 : World) : MsC w0 LL (MsL pk ki v) [] w0.drew := ⟨below_drew (Below.refl _ _), 0, rfl, fun h => by simp at h⟩
theorem MsC.grow {F : Nat → List Value} {b : Nat} (hb : Below w0.heap.size w0 w') (hv : vs = (F b).take vs.length) {u : Value} (hu : (F b)[vs.length]? = some u) (hh : 2 < vs.length + 1 → Has w' b (vCells LL) 28) : MsC w0 LL F (vs ++ [u]) w' := by
  refine ⟨hb, b, ?_, fun h => hh (by simpa using h)⟩
  rw [List.length_append, List.length_singleton, List.take_add_one, ← hv, hu]
  rfl
theorem MsC.blk (h : MsC w0 LL (MsL pk ki v) vs w) (hj : ∀ (j : Nat) v, vs[j]? = some v → Hf j = v) (h2 : 2 < vs.length) (hq : Hf 2 = .slice (some ⟨bq, 0, none⟩) 4 4) : vs = (MsL pk ki v bq).take vs.length ∧ Has w bq (vCells LL) 28 := by
  obtain ⟨_, b, h1, h3⟩ := h
  have e : vs[2]? = some (.slice (some ⟨b, 0, none⟩) 4 4) := by rw [h1, List.getElem?_take_of_lt h2]; rfl
  have := hj 2 _ e
  rw [hq] at this
  have hb : bq = b := by simpa using this
  subst hb
  exact ⟨h1, h3 h2⟩
theorem MsC.next0 (hl : vs.length = 0) (h : MsC w0 LL (MsL pk ki v) vs w) (hb : Below w.heap.size w w') : MsC w0 LL (MsL pk ki v) (vs ++ [.int .i64 ki]) w' := by
  obtain ⟨h1, b, h2, _⟩ := h
  exact MsC.grow (h1.trans (hb.mono h1.size)) h2 (by rw [hl]; rfl) (fun e => by omega)
theorem MsC.next1 (hl : vs.length = 1) (h : MsC w0 LL (MsL pk ki v) vs w) : MsC w0 LL (MsL pk ki v) (vs ++ [.bool true]) w := by
  obtain ⟨h1, b, h2, _⟩ := h
  exact MsC.grow h1 h2 (by rw [hl]; rfl) (fun e => by omega)
theorem MsC.next2 (hl : vs.length = 2) (h : MsC w0 LL (MsL pk ki v) vs w) {b : Nat} (hh : Has w' b (vCells LL) 28) (hb : Below w.heap.size w w') : MsC w0 LL (MsL pk ki v) (vs ++ [.slice (some ⟨b, 0, none⟩) 4 4]) w' := by
  obtain ⟨h1, b0, h2, _⟩ := h
  have e : vs = (MsL pk ki v b).take vs.length := by rw [h2, hl]; rfl
  exact MsC.grow (h1.trans (hb.mono h1.size)) e (by rw [hl]; rfl) (fun _ => hh)
theorem MsC.at3 (hl : vs.length = 3) (h : MsC w0 LL (MsL pk ki v) vs w) (hj : ∀ (j : Nat) v, vs[j]? = some v → Hf j = v) (hq : Hf 2 = .slice (some ⟨bq, 0, none⟩) 4 4) : vs = (MsL pk ki v bq).take vs.length ∧ Has w bq (vCells LL) 28 := h.blk hj (by omega) hq
theorem MsC.next3 (hl : vs.length = 3) (h : MsC w0 LL (MsL pk ki v) vs w) (hj : ∀ (j : Nat) v, vs[j]? = some v → Hf j = v) (hq : Hf 2 = .slice (some ⟨bq, 0, none⟩) 4 4) : MsC w0 LL (MsL pk ki v) (vs ++ [.pointer (some ⟨bq, pk * 5, none⟩)]) w := by
  obtain ⟨e, hh⟩ := h.blk hj (by omega) hq
  exact MsC.grow h.1 e (by rw [hl]; rfl) (fun _ => hh)
theorem MsC.at4 (hl : vs.length = 4) (h : MsC w0 LL (MsL pk ki v) vs w) (hj : ∀ (j : Nat) v, vs[j]? = some v → Hf j = v) (hq : Hf 2 = .slice (some ⟨bq, 0, none⟩) 4 4) : vs = (MsL pk ki v bq).take vs.length ∧ Has w bq (vCells LL) 28 := h.blk hj (by omega) hq
theorem MsC.next4 (hl : vs.length = 4) (h : MsC w0 LL (MsL pk ki v) vs w) (hj : ∀ (j : Nat) v, vs[j]? = some v → Hf j = v) (hq : Hf 2 = .slice (some ⟨bq, 0, none⟩) 4 4) : MsC w0 LL (MsL pk ki v) (vs ++ [v]) w := by
  obtain ⟨e, hh⟩ := h.blk hj (by omega) hq
  exact MsC.grow h.1 e (by rw [hl]; rfl) (fun _ => hh)
theorem MsC.next5 (hl : vs.length = 5) (h : MsC w0 LL (MsL pk ki v) vs w) (hb : Below w.heap.size w w') : MsC w0 LL (MsL pk ki v) (vs ++ [.bool true]) w' := by
  obtain ⟨h1, b, h2, h3⟩ := h
  have hh := h3 (by omega)
  exact MsC.grow (h1.trans (hb.mono h1.size)) h2 (by rw [hl]; rfl) (fun _ => hh.only (Only.of_below hb) (Nat.not_le.2 hh.lt))
theorem MsC.ex (vs : List Value) (w : World) (hl : vs.length < 6) (h : MsC w0 LL (MsL pk ki v) vs w) : ∃ u w', MsC w0 LL (MsL pk ki v) (vs ++ [u]) w' := by
  obtain ⟨h1, b, h2, h3⟩ := h
  by_cases e : vs.length = 2
  · refine ⟨_, w.alloc (.cells (vCells LL).toArray 28), MsC.next2 e ⟨h1, b, h2, h3⟩ (Has.new w _ _) ((Below.refl _ _).alloc (Nat.le_refl _) _)⟩
  · have : (MsL pk ki v b)[vs.length]? = some ((MsL pk ki v b)[vs.length]'hl) := List.getElem?_eq_getElem hl
    exact ⟨_, w, MsC.grow h1 h2 this (fun e' => h3 (by omega))⟩
theorem MsC.done (h : MsC w0 LL (MsL pk ki v) ((List.range 6).map Hf) w) : ∃ b, Hf 0 = .int .i64 ki ∧ Hf 1 = .bool true ∧ Hf 2 = .slice (some ⟨b, 0, none⟩) 4 4 ∧ Hf 3 = .pointer (some ⟨b, pk * 5, none⟩) ∧ Hf 4 = v ∧ Hf 5 = .bool true ∧ Below w0.heap.size w0 w := by
  obtain ⟨h1, b, h2, _⟩ := h
  have e : [Hf 0, Hf 1, Hf 2, Hf 3, Hf 4, Hf 5] = MsL pk ki v b := h2
  unfold MsL at e
  simp only [List.cons.injEq, and_true] at e
  obtain ⟨e0, e1, e2, e3, e4, e5⟩ := e
  exact ⟨b, e0, e1, e2, e3, e4, e5, h1⟩
end
set_option maxHeartbeats 16000000 in
set_option maxRecDepth 100000 in
theorem misses_walk (n : Nat) (hn : n < 65536) (kd : Nat) (tb : ByteArray) (cl : List Nat) (hcl : ∀ n ∈ cl, n < 256) (hcm : cl.length ≤ 9223372036854775807) (ac : Option Addr) (cc : Nat) (nl : List Nd) (hnl : ∀ x ∈ nl, x.Fit) (aw : Option Addr) (cw : Nat) (od : ByteArray) (ds : Bool) (lm : Int) (id : Nat) (hid : id < 4294967296) (a d : Int) (bs : ByteArray) (c : Bool) (nu : Nat) (ha : -2147483648 ≤ a ∧ a ≤ 2147483647) (hd : -2147483648 ≤ d ∧ d ≤ 2147483647) (hs : bs.size ≤ 9223372036854775807) (hu : nu < 256) (W : World) (hE : Env W) (rdc : Rd W (.slice ac cl.length cc) cl.length (u8Cells cl)) (rdn : Rd W (.slice aw nl.length cw) nl.length (ndCells nl)) :
    Calls Tryz.prog 7 #[.int .u16 (n : Int), .agg #[.int .u8 (kd : Int), .string tb, .slice ac cl.length cc, .slice aw nl.length cw, .string od, .bool ds, .int .i64 lm], .agg #[.int .u32 (id : Int), .int .i32 a, .int .i32 d, .string bs, .bool c, .int .u8 (nu : Int)]] W (RPost W (.bool true)) := by
  generalize hpost : RPost W (.bool true) = post
  have hfin : ∀ w', Below W.heap.size W w' → post (.returned (.bool true)) w' := fun w' hb => by rw [← hpost]; exact ⟨rfl, hb⟩
  clear hpost
  replace hfin := Lib.hid hfin
  obtain ⟨s0, hs0⟩ : ∃ s0, treeO nl 24 0 = s0 := ⟨_, rfl⟩
  have hFt := treeO_fit nl hnl 24 0
  have hSz := treeO_size24 nl
  rw [hs0] at hFt hSz
  have hst : ∀ wx, Below W.heap.size W wx → Calls Tryz.prog 24 #[.agg #[.int .u8 6, .string ⟨#[116]⟩, .slice ac cl.length cc, .slice aw nl.length cw, .string od, .bool ds, .int .i64 lm]] wx (StP nl od ds lm wx) := fun wx hb => statement_any cl hcl hcm ac cc nl hnl aw cw od ds lm wx (rdc.kept hb) (rdn.kept hb)
  obtain ⟨m, hm⟩ : ∃ m, cl.length = m := ⟨_, rfl⟩
  obtain ⟨q, hq⟩ : ∃ q, nl.length = q := ⟨_, rfl⟩
  rw [hm, hq] at hst ⊢
  clear rdc rdn hcl hcm hm hq hnl
  have htb := Lib.hid (fun wx => table_new n hn wx)
  have hK := dg_ok 8 n [] ⟨List.nodup_nil, fun k hk => (by cases hk)⟩
  obtain ⟨K, hKe⟩ : ∃ K, digD n = K := ⟨_, rfl⟩
  have hK2 : DigOk K := by rw [← hKe]; exact hK
  clear hK
  obtain ⟨W0, hW0⟩ : ∃ W0, W0 = (W.alloc (.cells #[.int .u8 (kd : Int), .string tb, .slice ac m cc, .slice aw q cw, .string od, .bool ds, .int .i64 lm] 76)).alloc (.cells #[.int .u32 (id : Int), .int .i32 a, .int .i32 d, .string bs, .bool c, .int .u8 (nu : Int)] 53) := ⟨_, rfl⟩
  have hS : Has W0 W.heap.size [.int .u8 (kd : Int), .string tb, .slice ac m cc, .slice aw q cw, .string od, .bool ds, .int .i64 lm] 76 := by rw [hW0]; exact (Has.new W _ _).alloc _
  have hR : Has W0 (W.heap.size + 1) [.int .u32 (id : Int), .int .i32 a, .int .i32 d, .string bs, .bool c, .int .u8 (nu : Int)] 53 := by rw [hW0]; have h := Has.new (W.alloc (.cells #[.int .u8 (kd : Int), .string tb, .slice ac m cc, .slice aw q cw, .string od, .bool ds, .int .i64 lm] 76)) [.int .u32 (id : Int), .int .i32 a, .int .i32 d, .string bs, .bool c, .int .u8 (nu : Int)] 53; simp only [World.size_alloc] at h; exact h
  have hb0 : Below W.heap.size W W0 := by rw [hW0]; exact ((Below.refl _ _).alloc (Nat.le_refl _) _).alloc (by simp) _
  replace hW0 := Lib.hid hW0.symm
  have haw := Lib.hid (awake_any W0 (hE.below hb0))
  replace hst := Lib.hid hst
  replace hS := Lib.hid hS
  replace hR := Lib.hid hR
  replace hb0 := Lib.hid hb0
  replace ha := Lib.hid ha
  replace hd := Lib.hid hd
  replace hs := Lib.hid hs
  replace hu := Lib.hid hu
  replace hid := Lib.hid hid
  replace hs0 := Lib.hid hs0
  replace hFt := Lib.hid hFt
  replace hSz := Lib.hid hSz
  replace hK2 := Lib.hid hK2
  replace hKe := Lib.hid hKe
  go_enter Tryz.func7, Tryz.ntmps7
  go_upto_region 1 with fail
  rw [hW0.out]
  go_wp2_with fail
  refine haw.out.mono ?_
  rintro e w1 ⟨rfl, hb1⟩
  have hS1 := hS.out.only (Only.of_below hb1) (Nat.not_le.2 hS.out.lt)
  have hR1 := hR.out.only (Only.of_below hb1) (Nat.not_le.2 hR.out.lt)
  have hb01 := hb0.out.trans (hb1.mono hb0.out.size)
  clear hb1 hb0 hS hR hW0 haw
  have tb1 := Lib.hid (htb.out w1)
  replace hS1 := Lib.hid hS1
  replace hR1 := Lib.hid hR1
  replace hb01 := Lib.hid hb01
  go_wp2_with fail
  refine tb1.out.mono ?_
  rintro e w4 ⟨ca, ct, ia, ic, rfl, hrc, hri, hb4, hnc, hni⟩
  rw [hKe.out] at hri hni ⊢
  dsimp only [tabI]
  obtain ⟨il, hil⟩ : ∃ il, K.length = il := ⟨_, rfl⟩
  rw [hil] at hri hni ⊢
  have hS4 := hS1.out.only (Only.of_below hb4) (Nat.not_le.2 hS1.out.lt)
  have hR4 := hR1.out.only (Only.of_below hb4) (Nat.not_le.2 hR1.out.lt)
  have hb04 := hb01.out.trans (hb4.mono hb01.out.size)
  have hl4 := hR4.lt
  have hlS := hS4.lt
  have hz1 := hS1.out.lt
  clear hS1 hR1 hb01 hb4 tb1 htb hKe
  obtain ⟨W5, hW5⟩ : ∃ W5, W5 = w4.alloc (.cells #[.string tagS, .int .i64 1, .slice ca 4 ct, .slice ia il ic, .int .u64 0, .int .u64 0] 59) := ⟨_, rfl⟩
  have hB5 : Below w4.heap.size w4 W5 := by rw [hW5]; exact (Below.refl _ _).alloc (Nat.le_refl _) _
  have HT5 : Has W5 w4.heap.size [.string tagS, .int .i64 1, .slice ca 4 ct, .slice ia il ic, .int .u64 0, .int .u64 0] 59 := by rw [hW5]; exact Has.new w4 _ _
  have HS5 := hS4.only (Only.of_below hB5) (Nat.not_le.2 hS4.lt)
  have HR5 := hR4.only (Only.of_below hB5) (Nat.not_le.2 hR4.lt)
  have HS5a := HS5.set 0 (.int .u8 6)
  have x0 := HS5.cell (o := 0) rfl
  have y0 := HS5.free 0
  have x1 := HS5a.cell (o := 1) rfl
  have y1 := HS5a.free 1
  obtain ⟨W6, hW6⟩ : ∃ W6, W6 = (W5.setCell ⟨W.heap.size, 0, none⟩ (.int .u8 6)).setCell ⟨W.heap.size, 1, none⟩ (.string ⟨#[116]⟩) := ⟨_, rfl⟩
  have HS6 : Has W6 W.heap.size [.int .u8 6, .string ⟨#[116]⟩, .slice ac m cc, .slice aw q cw, .string od, .bool ds, .int .i64 lm] 76 := by rw [hW6]; exact HS5a.set 1 (.string ⟨#[116]⟩)
  have hO6 : Only (fun k => k = W.heap.size) W5 W6 := by rw [hW6]; exact ((Only.refl (fun k => k = W.heap.size) W5).setCell (a := ⟨W.heap.size, 0, none⟩) (fun _ => rfl) _).setCell (a := ⟨W.heap.size, 1, none⟩) (fun _ => rfl) _
  have HR6 := HR5.only hO6 (by omega)
  have HT6 := HT5.only hO6 (by omega)
  have hb05 := hb04.trans (hB5.mono hb04.size)
  have hb06 := hb05.trans (hO6.below (B := W.heap.size) hb05.size (fun k _ e => by omega))
  have hrc6 : Rd W6 (.slice ca 4 ct) 4 (cCells (colsT 4)) := (hrc.kept hB5).only hO6 (fun k hk e => by have := hnc k hk; omega)
  have hri6 : Rd W6 (.slice ia il ic) il (ixCells (K.map ixK)) := (hri.kept hB5).only hO6 (fun k hk e => by have := hni k hk; omega)
  have hst6 := Lib.hid (hst.out W6 hb06)
  replace hW5 := Lib.hid hW5.symm
  replace hW6 := Lib.hid hW6.symm
  have s0 := HS6.cell (o := 0) rfl
  have s1 := HS6.cell (o := 1) rfl
  have s2 := HS6.cell (o := 2) rfl
  have s3 := HS6.cell (o := 3) rfl
  have s4 := HS6.cell (o := 4) rfl
  have s5 := HS6.cell (o := 5) rfl
  have s6 := HS6.cell (o := 6) rfl
  clear hrc hri hnc hni hS4 hR4 hb04 hB5 hO6 HT5 HS5 HR5 HS5a hb05 HS6 hst hl4 hlS hz1
  replace HR6 := Lib.hid HR6
  replace HT6 := Lib.hid HT6
  replace hb06 := Lib.hid hb06
  replace hrc6 := Lib.hid hrc6
  replace hri6 := Lib.hid hri6
  go_upto_region 4 with fail
  rw [hW5.out]
  go_upto_region 5 with fail
  rw [hW6.out]
  clear x0 y0 x1 y1 hW5 hW6
  go_wp2_with fail
  refine hst6.out.mono ?_
  rintro e w7 ⟨t, qa, qn, qk, pp, rfl, hT, hb7⟩
  clear s0 s1 s2 s3 s4 s5 s6 hst6
  obtain ⟨ps, hps⟩ := AT.isP t
  rw [hps]
  rw [hs0.out] at hT
  have hFs : t.Fit := fit_same hT.sm hFt.out
  have hSs : t.size ≤ 200000 := by rw [← size_sm hT.sm]; exact hSz.out
  have hNs := hT.nd
  have hA7 : t.At w7 := hT.at'
  have hb07 := hb06.out.trans (hb7.mono hb06.out.size)
  have HR7 := HR6.out.only (Only.of_below hb7) (Nat.not_le.2 HR6.out.lt)
  have HT7 := HT6.out.only (Only.of_below hb7) (Nat.not_le.2 HT6.out.lt)
  have hrc7 := hrc6.out.kept hb7
  have hri7 := hri6.out.kept hb7
  clear hT hb7 hb06 HR6 HT6 hrc6 hri6 hs0 hFt hSz
  obtain ⟨W8, hW8⟩ : ∃ W8, W8 = (w7.alloc (.cells #[.int .u8 0, .string ⟨#[]⟩, .int .u32 0, .slice none 0 0, .slice none 0 0, .pointer none, .string ⟨#[]⟩, .bool false, .int .i64 0, .string ⟨#[]⟩, .int .i64 0, .slice none 0 0, .slice none 0 0, .int .u64 0, .int .u64 0, .bool false] 80)).alloc (.cells #[.int .i64 0, .string ⟨#[]⟩, .slice none 0 0, .pointer none, .string ⟨#[]⟩, .bool false, .int .i64 0] 82) := ⟨_, rfl⟩
  have HQ8 : Has W8 w7.heap.size qZ 80 := by rw [hW8]; exact (Has.new w7 qZ _).alloc _
  have HZ8 : Has W8 (w7.heap.size + 1) rZ 82 := by rw [hW8]; have h := Has.new (w7.alloc (.cells #[.int .u8 0, .string ⟨#[]⟩, .int .u32 0, .slice none 0 0, .slice none 0 0, .pointer none, .string ⟨#[]⟩, .bool false, .int .i64 0, .string ⟨#[]⟩, .int .i64 0, .slice none 0 0, .slice none 0 0, .int .u64 0, .int .u64 0, .bool false] 80)) rZ 82; simp only [World.size_alloc] at h; exact h
  have hB8 : Below w7.heap.size w7 W8 := by rw [hW8]; exact ((Below.refl _ _).alloc (Nat.le_refl _) _).alloc (by simp) _
  obtain ⟨W9, hr9, HQ9, hO9⟩ := stm_store (new := stmtC 6 ⟨#[116]⟩ (.slice qa qn qk) (.pointer ps) od ds lm) HQ8 rfl rfl (by simp [stmtC, Value.oneCell'])
  have HZ9 := HZ8.only hO9 (by omega)
  obtain ⟨W10, hr10, HZ10, hO10⟩ := rst_store (new := rC (.slice qa qn qk) (.pointer pp) od ds lm) HZ9 rfl rfl (by simp [rC, Value.oneCell'])
  have HQ10 := HQ9.only hO10 (by omega)
  have hB10 : Below w7.heap.size w7 W10 := (hB8.trans (hO9.below (B := w7.heap.size) hB8.size (fun k _ e => by omega))).trans (hO10.below (B := w7.heap.size) (Nat.le_trans hB8.size hO9.size) (fun k _ e => by omega))
  have hb10 := hb07.trans (hB10.mono hb07.size)
  have HR10 := HR7.only (Only.of_below hB10) (Nat.not_le.2 HR7.lt)
  have HT10 := HT7.only (Only.of_below hB10) (Nat.not_le.2 HT7.lt)
  have hrc10 := hrc7.kept hB10
  have hri10 := hri7.kept hB10
  have hA10 := hA7.below hB10
  have hE10 := hE.below hb10
  obtain ⟨QV, hQV⟩ : ∃ QV, Value.agg (stmtC 6 ⟨#[116]⟩ (.slice qa qn qk) (.pointer ps) od ds lm).toArray = QV := ⟨_, rfl⟩
  obtain ⟨RV9, hRV⟩ : ∃ x, Value.agg (rC (.slice qa qn qk) (.pointer pp) od ds lm).toArray = x := ⟨_, rfl⟩
  rw [hQV, hRV]
  rw [hQV] at hr9
  rw [hRV] at hr10
  clear HQ8 HZ8 hB8 HQ9 HZ9 hO9 hO10 HZ10 hB10 hb07 HR7 HT7 hrc7 hri7 hA7 hRV
  replace hW8 := Lib.hid hW8.symm
  replace HQ10 := Lib.hid HQ10
  replace HR10 := Lib.hid HR10
  replace HT10 := Lib.hid HT10
  replace hrc10 := Lib.hid hrc10
  replace hri10 := Lib.hid hri10
  replace hA10 := Lib.hid hA10
  replace hE10 := Lib.hid hE10
  replace hb10 := Lib.hid hb10
  replace hQV := Lib.hid hQV
  replace hr9 := Lib.hid hr9
  replace hr10 := Lib.hid hr10
  replace hps := Lib.hid hps
  replace hFs := Lib.hid hFs
  replace hSs := Lib.hid hSs
  replace hNs := Lib.hid hNs
  rename_i hKK
  refine hKK _ _ ?_
  refine wpList_val rfl (.tuple #[QV, RV9]) w7 (by simp [go_sem, Act.put]) ?_
  refine wpList_val rfl QV w7 (by simp [go_sem, Act.put]) ?_
  refine wpList_val rfl RV9 w7 (by simp [go_sem, Act.put]) ?_
  refine wpList_val rfl (.pointer (some ⟨w7.heap.size, 0, none⟩)) (w7.alloc (.cells #[.int .u8 0, .string ⟨#[]⟩, .int .u32 0, .slice none 0 0, .slice none 0 0, .pointer none, .string ⟨#[]⟩, .bool false, .int .i64 0, .string ⟨#[]⟩, .int .i64 0, .slice none 0 0, .slice none 0 0, .int .u64 0, .int .u64 0, .bool false] 80)) (by simp [go_sem, Act.put]) ?_
  refine wpList_val rfl (.pointer (some ⟨w7.heap.size + 1, 0, none⟩)) ((w7.alloc (.cells #[.int .u8 0, .string ⟨#[]⟩, .int .u32 0, .slice none 0 0, .slice none 0 0, .pointer none, .string ⟨#[]⟩, .bool false, .int .i64 0, .string ⟨#[]⟩, .int .i64 0, .slice none 0 0, .slice none 0 0, .int .u64 0, .int .u64 0, .bool false] 80)).alloc (.cells #[.int .i64 0, .string ⟨#[]⟩, .slice none 0 0, .pointer none, .string ⟨#[]⟩, .bool false, .int .i64 0] 82)) (by simp [go_sem, Act.put]) ?_
  rw [hW8.out]
  refine wpList_storeA rfl (.tmp 8) (.tmp 24) 80 rfl rfl hr9.out ?_
  refine wpList_storeA rfl (.tmp 9) (.tmp 25) 82 rfl rfl hr10.out ?_
  clear hr9 hr10 hW8
  simp only [Act.put]
  obtain ⟨es, hes⟩ : ∃ e, checkP (colsT 4) t = e := ⟨_, rfl⟩
  obtain ⟨pd, hpd⟩ : ∃ pd, planD (fun c => bndP c t) (nmK K) (tyK K) K.length = pd := ⟨_, rfl⟩
  obtain ⟨is, his⟩ : ∃ is, idsP (bndP idS t).lo (bndP idS t).hi = is := ⟨_, rfl⟩
  obtain ⟨pc, hpc⟩ : ∃ pc : List Value, (if es = 0 then planCells pd is (.pointer ps) ⟨#[]⟩ false (-1) else [.int .u8 0, .string ⟨#[]⟩, .int .u8 0, .bool false, .int .i64 0, .string ⟨#[]⟩, .bool false, .int .u8 0, .bool false, .int .i64 0, .string ⟨#[]⟩, .bool false, .int .u32 0, .int .u32 0, .pointer none, .string ⟨#[]⟩, .bool false, .int .i64 0]) = pc := ⟨_, rfl⟩
  have hpl : pc.length = 18 := by rw [← hpc]; split <;> rfl
  have hp1 : ∀ v ∈ pc, v.oneCell' = true := by rw [← hpc]; split <;> simp [planCells, Value.oneCell']
  have hTb : TblAt W10 K ca ct ia ic := ⟨hK2.out, hrc10.out, by rw [hil]; exact hri10.out⟩
  have hTt : TreeAt W10 t := ⟨hA10.out, hNs.out, hFs.out, Nat.le_trans hSs.out (by decide)⟩
  have hmk : Calls Tryz.prog 25 #[.agg #[.string tagS, .int .i64 1, .slice ca 4 ct, .slice ia il ic, .int .u64 0, .int .u64 0], QV] W10 (fun e w' => e = .returned (.tuple #[.agg pc.toArray, .int .i64 (es : Int)]) ∧ Below W10.heap.size W10 w') := by
    have := make_del hTb hTt hE10.out (.slice qa qn qk) od ds lm (fun e w' => e = .returned (.tuple #[.agg pc.toArray, .int .i64 (es : Int)]) ∧ Below W10.heap.size W10 w')
      (fun h w' hb => ⟨by rw [hes] at h ⊢; rw [← hpc, if_neg h], hb⟩) (fun h w' hb => ⟨by rw [hes] at h; rw [hpd, his, hps.out, ← hpc, if_pos h, h]; rfl, hb⟩)
    rw [hps.out, hil] at this
    rw [← hQV.out]
    exact this
  have hrq : (Instr.loadAt 80 (.pointer (some ⟨w7.heap.size, 0, none⟩))).run Tryz.prog W10 = .ok QV W10 := by rw [← hQV.out]; exact stmt_load HQ10.out rfl
  have ck := check_T hTb hTt
  rw [hes, hps.out, hil] at ck
  unfold tabI at ck
  have t0 := HT10.out.cell (o := 0) rfl
  have t1 := HT10.out.cell (o := 1) rfl
  have t2 := HT10.out.cell (o := 2) rfl
  have t3 := HT10.out.cell (o := 3) rfl
  have t4 := HT10.out.cell (o := 4) rfl
  have t5 := HT10.out.cell (o := 5) rfl
  clear hTb
  replace hmk := Lib.hid hmk
  replace hrq := Lib.hid hrq
  replace hes := Lib.hid hes
  replace hpd := Lib.hid hpd
  replace his := Lib.hid his
  replace hpc := Lib.hid hpc
  replace hpl := Lib.hid hpl
  replace hp1 := Lib.hid hp1
  replace hTt := Lib.hid hTt
  go_upto_region 6 with fail
  go_wp2_with (refine wpList_loadA rfl (.tmp 8) 80 rfl QV hrq.out ?_)
  refine hmk.out.mono ?_
  rintro e w11 ⟨rfl, hb11⟩
  obtain ⟨W12, hr12, HP12, hO12⟩ := plan_store (new := pc) (Has.new w11 [.int .u8 0, .string ⟨#[]⟩, .int .u8 0, .bool false, .int .i64 0, .string ⟨#[]⟩, .bool false, .int .u8 0, .bool false, .int .i64 0, .string ⟨#[]⟩, .bool false, .int .u32 0, .int .u32 0, .pointer none, .string ⟨#[]⟩, .bool false, .int .i64 0] 43) rfl hpl.out hp1.out
  have hB12 : Below w11.heap.size w11 W12 := ((Below.refl w11.heap.size w11).alloc (Nat.le_refl _) _).trans (hO12.below (B := w11.heap.size) (by simp) (fun k _ e => by omega))
  have hB112 := hb11.trans (hB12.mono hb11.size)
  have hb12 := hb10.out.trans (hB112.mono hb10.out.size)
  have HR12 := HR10.out.only (Only.of_below hB112) (Nat.not_le.2 HR10.out.lt)
  have HT12 := HT10.out.only (Only.of_below hB112) (Nat.not_le.2 HT10.out.lt)
  have HQ12 := HQ10.out.only (Only.of_below hB112) (Nat.not_le.2 HQ10.out.lt)
  have hrc12 := hrc10.out.kept hB112
  have hri12 := hri10.out.kept hB112
  have hTt12 := hTt.out.below hB112
  have hE12 := hE10.out.below hB112
  have hTb12 : TblAt W12 K ca ct ia ic := ⟨hK2.out, hrc12, by rw [hil]; exact hri12⟩
  obtain ⟨PV, hPV⟩ : ∃ PV, Value.agg pc.toArray = PV := ⟨_, rfl⟩
  rw [hPV]
  rw [hPV] at hr12
  clear hb11 hO12 hB12 hB112 t0 t1 t2 t3 t4 t5 hmk hrq ck hPV hb10 HR10 HT10 HQ10 hrc10 hri10 hE10 hTt hA10 hQV
  replace hr12 := Lib.hid hr12
  replace HP12 := Lib.hid HP12
  replace HR12 := Lib.hid HR12
  replace HT12 := Lib.hid HT12
  replace HQ12 := Lib.hid HQ12
  replace hrc12 := Lib.hid hrc12
  replace hri12 := Lib.hid hri12
  replace hTt12 := Lib.hid hTt12
  replace hE12 := Lib.hid hE12
  replace hTb12 := Lib.hid hTb12
  replace hb12 := Lib.hid hb12
  rename_i hK6
  refine hK6 _ _ ?_
  refine wpList_val rfl (.tuple #[PV, .int .i64 (es : Int)]) w11 (by simp [go_sem, Act.put]) ?_
  refine wpList_val rfl PV w11 (by simp [go_sem, Act.put]) ?_
  refine wpList_val rfl (.int .i64 (es : Int)) w11 (by simp [go_sem, Act.put]) ?_
  refine wpList_val rfl (.pointer (some ⟨w11.heap.size, 0, none⟩)) (w11.alloc (.cells #[.int .u8 0, .string ⟨#[]⟩, .int .u8 0, .bool false, .int .i64 0, .string ⟨#[]⟩, .bool false, .int .u8 0, .bool false, .int .i64 0, .string ⟨#[]⟩, .bool false, .int .u32 0, .int .u32 0, .pointer none, .string ⟨#[]⟩, .bool false, .int .i64 0] 43)) (by simp [go_sem, Act.put]) ?_
  refine wpList_storeA rfl (.tmp 10) (.tmp 30) 43 rfl rfl hr12.out ?_
  simp only [Act.put]
  clear hr12
  have ck12 := check_T hTb12.out hTt12.out
  rw [hes.out, hps.out, hil] at ck12
  unfold tabI at ck12
  have kT := fun wx (hb : Below W12.heap.size W12 wx) => HT12.out.only (Only.of_below hb) (Nat.not_le.2 HT12.out.lt)
  have kR := fun wx (hb : Below W12.heap.size W12 wx) => HR12.out.only (Only.of_below hb) (Nat.not_le.2 HR12.out.lt)
  have kQ := fun wx (hb : Below W12.heap.size W12 wx) => HQ12.out.only (Only.of_below hb) (Nat.not_le.2 HQ12.out.lt)
  have kP := fun wx (hb : Below W12.heap.size W12 wx) => HP12.out.only (Only.of_below hb) (Nat.not_le.2 HP12.out.lt)
  have kS := fun wx (hb : Below W12.heap.size W12 wx) => hTt12.out.below hb
  have kE := fun wx (hb : Below W12.heap.size W12 wx) => hE12.out.below hb
  have kF := fun wx (hb : Below W12.heap.size W12 wx) => hfin.out wx (hb12.out.trans (hb.mono hb12.out.size))
  have krc := fun wx (hb : Below W12.heap.size W12 wx) => hrc12.out.kept hb
  have kri := fun wx (hb : Below W12.heap.size W12 wx) => hri12.out.kept hb
  have t0 := HT12.out.cell (o := 0) rfl
  have t1 := HT12.out.cell (o := 1) rfl
  have t2 := HT12.out.cell (o := 2) rfl
  have t3 := HT12.out.cell (o := 3) rfl
  have t4 := HT12.out.cell (o := 4) rfl
  have t5 := HT12.out.cell (o := 5) rfl
  have q5 := HQ12.out.cell (o := 5) rfl
  clear HT12 HR12 HQ12 HP12 hTt12 hE12 hb12 hrc12 hri12 hTb12 hfin
  replace ck12 := Lib.hid ck12
  replace kT := Lib.hid kT
  replace kR := Lib.hid kR
  replace kQ := Lib.hid kQ
  replace kP := Lib.hid kP
  replace kS := Lib.hid kS
  replace kE := Lib.hid kE
  replace kF := Lib.hid kF
  replace krc := Lib.hid krc
  replace kri := Lib.hid kri
  by_cases g1 : ¬ (es = 0)
  · have n1 : ((es : Int) != 0) = true := by simp; exact g1
    have n2 : ((es : Int) == (es : Int)) = true := by simp
    clear g1
    go_wp2_with fail
    refine ck12.out.mono ?_
    rintro e w13 ⟨rfl, hb13⟩
    have fn := Lib.hid (kF.out w13 hb13)
    clear hb13 t0 t1 t2 t3 t4 t5 q5
    go_wp2_with fail
    exact fn.out
  replace g1 := Classical.not_not.1 g1
  subst g1
  have n1 : (((0 : Nat) : Int) != 0) = false := rfl
  clear ck12 q5 t0 t1 t2 t3 t4 t5
  have hpc0 : pc = planCells pd is (.pointer ps) ⟨#[]⟩ false (-1) := by rw [← hpc.out, if_pos rfl]
  rw [hpc0] at kP
  clear hpc hpl hp1 hpc0
  have wS := wf_check hes.out
  obtain ⟨LL, hLL⟩ : ∃ LL, rowL a d bs c nu = LL := ⟨_, rfl⟩
  have hlen : LL.length = 4 := by rw [← hLL]; simp [rowL]
  have hG : ∀ k, k < 4 → (LL.getD k RV0).ty = tyC k ∧ (LL.getD k RV0).tx.size ≤ 10 ∧ ((LL.getD k RV0).nl = false → formP (LL.getD k RV0) = 0) := fun k hk => by
    have e : LL.getD k RV0 = rowV a d bs c nu k := by
      rw [← hLL]
      unfold rowL
      rw [List.getD, List.getElem?_map, List.getElem?_range (by omega)]; rfl
    rw [e]; exact row_form ha.out hd.out k hk
  have htx : ∀ v ∈ LL, v.tx.size ≤ 140737488351232 := fun v hv => by
    obtain ⟨k, hk, rfl⟩ := List.mem_iff_getElem.1 hv
    have := (hG k (by omega)).2.1
    rw [List.getD, List.getElem?_eq_getElem hk] at this
    exact Nat.le_trans this (by decide)
  have hty : ∀ k, k < (colsT 4).length → (LL.getD k RV0).nl = false → (LL.getD k RV0).ty = ((colsT 4).getD k CV0).ty := fun k hk _ => by
    rw [colsT_len] at hk
    rw [(hG k hk).1]
    obtain rfl | rfl | rfl | rfl : k = 0 ∨ k = 1 ∨ k = 2 ∨ k = 3 := by omega
    all_goals rfl
  obtain ⟨z, hz⟩ : ∃ z, evB (colsT 4) LL id t = z := ⟨_, rfl⟩
  have cE : ∀ wx b, Below W12.heap.size W12 wx → Has wx b (vCells LL) 28 → Calls Tryz.prog 22 #[.pointer ps, .agg #[.string tagS, .int .i64 1, .slice ca 4 ct, .slice ia il ic, .int .u64 0, .int .u64 0], .int .u32 (id : Int), .slice (some ⟨b, 0, none⟩) 4 4] wx (RPost wx (.tuple #[.bool z, .int .i64 0])) := fun wx b hx hh => by
    have := eval_any (root := t) (kS.out wx hx).at' hNs.out (Nat.le_trans hSs.out (by decide)) hFs.out tagS 1 (colsT 4) ca ct ia il ic (krc.out wx hx) (by decide) hes.out id hid.out LL (some ⟨b, 0, none⟩) 4 (by rw [hlen]; exact Rd.of_has hh 4 4) (by rw [hlen]; rfl) hty htx
    rw [hps.out, hz, hlen] at this
    exact this
  have cV : ∀ wx, Calls Tryz.prog 19 #[.agg #[.int .u32 (id : Int), .int .i32 a, .int .i32 d, .string bs, .bool c, .int .u8 (nu : Int)]] wx (ValsP LL wx) := fun wx => by rw [← hLL]; exact rowvalues_any id a d bs c nu ha.out hd.out hs.out hu.out wx
  have hM : z = true → _ := fun h => miss_plain hK2.out wS id hid.out (fun k hk => ⟨(hG k hk).1, (hG k hk).2.2⟩) (hz.trans h)
  rw [hpd.out, his.out] at hM
  clear hty wS hes hs hu
  replace hG := Lib.hid hG
  replace htx := Lib.hid htx
  replace hz := Lib.hid hz
  replace cE := Lib.hid cE
  replace cV := Lib.hid cV
  replace hlen := Lib.hid hlen
  replace hLL := Lib.hid hLL
  replace hM := Lib.hid hM
  go_upto_region 9 with fail
  refine wp_region_part [6, 7] [[], [0]] [] (ChC (EvC W12 LL z) 2) (by kernel_rfl) (by kernel_rfl) (by kernel_rfl) (ChC.start (show Below W12.heap.size W12 W12.drew from below_drew (Below.refl _ _))) (ChC.ex EvC.ex) (fun Hf hx => ?_)
  obtain ⟨w', hx⟩ := hx
  obtain ⟨⟨bq, v0e⟩, v1e, _⟩ := hx.done
  clear hx
  have kA : ∀ {nds : List Nat} {wx : World}, clsP (ChC (EvC W12 LL z) 2) Hf nds wx → Below W12.heap.size W12 wx := fun h => by
    obtain ⟨vs, _, h2, _⟩ := ChC.at h
    exact h2.below
  refine part_chunk [] 6 0 _ _ (by kernel_rfl) (by kernel_rfl) (by decide) ?_
  simp only [List.take_succ_cons, List.take_zero, List.drop_succ_cons, List.drop_zero]
  iterate 1 (go_big_quiet_want; go_big_quiet_op; first | go_big_quiet_on | (refine ⟨_, fun _ _ => rfl, ?_⟩; go_big_quiet_on))
  go_big_quiet_want; go_big_quiet_op
  refine ⟨.pointer ps, fun wx hx => by simp [go_sem, (kQ.out wx (kA hx)).cell (o := 5) rfl], ?_⟩
  go_big_quiet_on
  go_big_quiet_want; go_big_quiet_op
  refine ⟨.agg #[.string tagS, .int .i64 1, .slice ca 4 ct, .slice ia il ic, .int .u64 0, .int .u64 0], fun wx hx => by simp [go_sem, (kT.out wx (kA hx)).cell (o := 0) rfl, (kT.out wx (kA hx)).cell (o := 1) rfl, (kT.out wx (kA hx)).cell (o := 2) rfl, (kT.out wx (kA hx)).cell (o := 3) rfl, (kT.out wx (kA hx)).cell (o := 4) rfl, (kT.out wx (kA hx)).cell (o := 5) rfl], ?_⟩
  go_big_quiet_on
  iterate 1 (go_big_quiet_want; go_big_quiet_op; first | go_big_quiet_on | (refine ⟨_, fun _ _ => rfl, ?_⟩; go_big_quiet_on))
  go_big_quiet_want; go_big_quiet_op
  refine ⟨.int .u32 (id : Int), fun wx hx => by simp [go_sem, (kR.out wx (kA hx)).cell (o := 0) rfl], ?_⟩
  go_big_quiet_on
  go_big_quiet_want; go_big_quiet_op
  refine ⟨.agg #[.int .u32 (id : Int), .int .i32 a, .int .i32 d, .string bs, .bool c, .int .u8 (nu : Int)], fun wx hx => by simp [go_sem, (kR.out wx (kA hx)).cell (o := 0) rfl, (kR.out wx (kA hx)).cell (o := 1) rfl, (kR.out wx (kA hx)).cell (o := 2) rfl, (kR.out wx (kA hx)).cell (o := 3) rfl, (kR.out wx (kA hx)).cell (o := 4) rfl, (kR.out wx (kA hx)).cell (o := 5) rfl], ?_⟩
  go_big_quiet_on
  refine wpQuiet_nil ?_
  refine part_step (s := 0) v0e (by go_simp; exact rfl) (by kernel_rfl) (by kernel_rfl) (fun H wx hs' hn' hp' hc' => ?_) ?_
  · obtain ⟨vs', hl', hPh, _, hk'⟩ := ChC.step hc' hn' (.inl rfl) (by decide) hs'
    match vs', hl', hPh with
    | [], _, hPh =>
      refine callUpon_mk (f := 19) (args := #[.agg #[.int .u32 (id : Int), .int .i32 a, .int .i32 d, .string bs, .bool c, .int .u8 (nu : Int)]]) (by simp [go_sem]) ?_
      exact (cV.out wx).mono fun e w'' hv => by
        obtain ⟨b, he, hh, hbb, hw⟩ := hv
        exact ⟨_, he, hk' _ _ ⟨b, rfl, hh, Nat.le_trans hPh.size hbb, hPh.trans (hw.mono hPh.size)⟩⟩
  refine part_step (s := 1) v1e (by go_simp; exact rfl) (by kernel_rfl) (by kernel_rfl) (fun H wx hs' hn' hp' hc' => ?_) ?_
  · obtain ⟨vs', hl', hPh, hj', hk'⟩ := ChC.step hc' hn' (.inr (hp' 0 (by simp))) (by decide) hs'
    match vs', hl', hPh, hj', hk' with
    | [r0], _, hPh, hj', hk' =>
      have hr0 := hj' 0 r0 rfl
      obtain ⟨b, hb, hh, hbb, hw⟩ := hPh
      rw [v0e] at hr0
      have eb : bq = b := by rw [hb] at hr0; simpa using hr0
      subst eb
      refine callUpon_mk (f := 22) (args := #[.pointer ps, .agg #[.string tagS, .int .i64 1, .slice ca 4 ct, .slice ia il ic, .int .u64 0, .int .u64 0], .int .u32 (id : Int), .slice (some ⟨bq, 0, none⟩) 4 4]) (by simp [go_sem]) ?_
      exact (cE.out wx bq hw hh).mono fun e w'' ⟨he, hw2⟩ => ⟨_, he, hk' _ _ ⟨⟨bq, hb⟩, rfl, hw.trans (hw2.mono hw.size)⟩⟩
  refine part_chunk [] 5 _ _ _ (by kernel_rfl) (by kernel_rfl) (by decide) ?_
  simp only [List.take_succ_cons, List.take_zero, List.drop_succ_cons, List.drop_zero]
  iterate 5 (go_big_quiet_want; go_big_quiet_op; first | go_big_quiet_on | (refine ⟨_, fun _ _ => rfl, ?_⟩; go_big_quiet_on))
  refine wpQuiet_nil ?_
  intro w14 hz14
  obtain ⟨_, _, hb14⟩ := hz14.done
  clear hz14 v0e v1e kA cE n1
  replace hb14 := Lib.hid hb14
  have n2 : (((0 : Nat) : Int) != 0) = false := rfl
  have n3 : ((0 : Int) != 0) = false := rfl
  have n4 : ((0 : Int) == 0) = true := rfl
  cases z with
  | false =>
    have fn := Lib.hid (kF.out w14 hb14.out)
    clear hM hz
    go_wp2_with fail
    exact fn.out
  | true =>
    obtain ⟨⟨hlo, hhi⟩, h3⟩ := hM.out rfl
    have d1 : decide ((id : Int) < is.1) = false := decide_eq_false (by omega)
    have d2 : decide (is.2 < (id : Int)) = false := decide_eq_false (by omega)
    have r0 := (kR.out w14 hb14.out).cell (o := 0) rfl
    have p12 := (kP.out w14 hb14.out).cell (o := 12) rfl
    have p13 := (kP.out w14 hb14.out).cell (o := 13) rfl
    have p1 := (kP.out w14 hb14.out).cell (o := 1) rfl
    have hq14 := kT.out w14 hb14.out
    have t0 := hq14.cell (o := 0) rfl
    have t1 := hq14.cell (o := 1) rfl
    have t2 := hq14.cell (o := 2) rfl
    have t3 := hq14.cell (o := 3) rfl
    have t4 := hq14.cell (o := 4) rfl
    have t5 := hq14.cell (o := 5) rfl
    clear hq14 hM
    obtain ⟨fr, hfr, hfp⟩ : ∃ fr : Int, FindIs (colsT 4) pd.col fr ∧ ∀ p : Nat, p < 4 → pd.col = colN p → fr = (p : Int) := by
      by_cases h : ∃ p : Nat, p < 4 ∧ pd.col = colN p
      · obtain ⟨p, hp, he⟩ := h
        refine ⟨p, by rw [he]; exact findT p hp, fun p' hp' he' => ?_⟩
        have h1 := nm_eq p p' (by omega) (by omega)
        rw [← he, ← he'] at h1
        have h2 : (pd.col.toList == pd.col.toList) = true := by simp
        rw [h2] at h1
        have := of_decide_eq_true h1.symm
        omega
      · obtain ⟨r, hr⟩ := findI_ex (colsT 4) pd.col
        exact ⟨r, hr, fun p hp he => absurd ⟨p, hp, he⟩ h⟩
    have hfd : ∀ wx, Below W12.heap.size W12 wx → Calls Tryz.prog 26 #[.agg #[.string tagS, .int .i64 1, .slice ca 4 ct, .slice ia il ic, .int .u64 0, .int .u64 0], .string pd.col] wx (RPost wx (.int .i64 fr)) := fun wx hx => by
      have := find_ix tagS 1 (colsT 4) ca ct ia il ic pd.col fr hfr wx (by rw [colsT_len]; exact krc.out wx hx) (by rw [colsT_len]; omega)
      rw [colsT_len] at this
      exact this
    have hfd14 := Lib.hid (hfd w14 hb14.out)
    clear hfr hfd hz hlo hhi
    replace h3 := Lib.hid h3
    replace hfp := Lib.hid hfp
    go_wp2_with fail
    refine hfd14.out.mono ?_
    rintro e w15 ⟨rfl, hb15⟩
    have hb15e := hb14.out.trans (hb15.mono hb14.out.size)
    clear hb15 hb14 r0 p12 p13 p1 t0 t1 t2 t3 t4 t5 hfd14
    replace hb15e := Lib.hid hb15e
    go_upto_region 15 with fail
    have fn := Lib.hid (fun wx (hb : Below w15.heap.size w15 wx) => kF.out wx (hb15e.out.trans (hb.mono hb15e.out.size)))
    by_cases g3 : ¬ (pd.path = 3)
    · have m3 : ((pd.path : Int) != 3) = true := by simp; omega
      refine wp_region_quietC (C := fun wx => Below w15.heap.size w15 wx) (by kernel_rfl) (by kernel_rfl) (below_drew (Below.refl _ _)) ?_
      have kA : ∀ {wx : World}, Below w15.heap.size w15 wx → Below W12.heap.size W12 wx := fun h => hb15e.out.trans (h.mono hb15e.out.size)
      iterate 1 (go_big_quiet_want; go_big_quiet_op; first | go_big_quiet_on | (refine ⟨_, fun _ _ => rfl, ?_⟩; go_big_quiet_on))
      go_big_quiet_want; go_big_quiet_op
      refine ⟨.int .u8 (pd.path : Int), fun wx hx => by simp [go_sem, (kP.out wx (kA hx)).cell (o := 0) rfl], ?_⟩
      go_big_quiet_on
      go_big_quiet_want; go_big_quiet_op
      refine ⟨.bool true, fun wx hx => by simp [go_sem, m3], ?_⟩
      go_big_quiet_on
      iterate 1 (go_big_quiet_want; go_big_quiet_op; first | go_big_quiet_on | (refine ⟨_, fun _ _ => rfl, ?_⟩; go_big_quiet_on))
      iterate 21 go_big_quiet_skip
      go_big_quiet_want; go_big_quiet_op
      refine ⟨.bool true, fun wx hx => by first | rfl | (simp [go_sem]; done), ?_⟩
      go_big_quiet_on
      iterate 1 (go_big_quiet_want; go_big_quiet_op; first | go_big_quiet_on | (refine ⟨_, fun _ _ => rfl, ?_⟩; go_big_quiet_on))
      refine wpQuiet_nil ?_
      intro w16 hw16
      have fn16 := Lib.hid (fn.out w16 hw16)
      clear hw16 kA
      go_wp2_with fail
      exact fn16.out
    replace g3 := Classical.not_not.1 g3
    obtain ⟨pk, ki, hp4, hk4, hcol, hI, hwi⟩ := h3.out g3
    have hfe := hfp.out pk hp4 hcol
    subst hfe
    have hix : ∀ wx, Below W12.heap.size W12 wx → Calls Tryz.prog 27 #[.agg #[.string tagS, .int .i64 1, .slice ca 4 ct, .slice ia il ic, .int .u64 0, .int .u64 0], .string pd.col] wx (RPost wx (.int .i64 (ki : Int))) := fun wx hx => by
      have := index_ix tagS 1 (K.map ixK) ca 4 ct ia ic pd.col (ki : Int) (by rw [hcol]; exact hI) wx (by rw [List.length_map, hil]; exact kri.out wx hx) (by rw [List.length_map]; have := hK2.out.four; omega)
      rw [List.length_map, hil] at this
      exact this
    obtain ⟨v, hv⟩ : ∃ v, LL.getD pk RV0 = v := ⟨_, rfl⟩
    have hvs : v.tx.size ≤ 10 := by rw [← hv]; exact (hG.out pk hp4).2.1
    have bdl : ∀ c, (bndP c t).Bd := fun c => bndP.bd c hFs.out
    have hbl : pd.lo.tx.size ≤ 140737488351232 ∧ pd.hi.tx.size ≤ 140737488351232 := by
      have h := hpd.out
      have h' : (planD (fun c => bndP c t) (nmK K) (tyK K) K.length).path = 3 := by rw [h]; exact g3
      obtain ⟨j, _, _, _, he⟩ := planD_three h'
      rw [h] at he
      rw [he]
      exact ⟨(bdl _).1.2.1, (bdl _).2.2.1⟩
    rw [hv] at hwi
    have hwt : ∀ wx, Below W12.heap.size W12 wx → Calls Tryz.prog 21 #[.agg #[.int .u8 (v.ty : Int), .bool v.nl, .int .i64 v.n, .string v.tx, .bool v.b], .agg #[.int .u8 (pd.lo.ty : Int), .bool pd.lo.nl, .int .i64 pd.lo.n, .string pd.lo.tx, .bool pd.lo.b], .agg #[.int .u8 (pd.hi.ty : Int), .bool pd.hi.nl, .int .i64 pd.hi.n, .string pd.hi.tx, .bool pd.hi.b]] wx (RPost wx (.bool true)) := fun wx hx => by
      have := within_any v pd.lo pd.hi (Nat.le_trans hvs (by decide)) hbl.1 hbl.2 wx (kE.out wx hx)
      rw [hwi] at this
      exact this
    have hcv : ∀ (wx : World) (b : Nat), Has wx b (vCells LL) 28 → ∀ j y, v.cells[j]? = some y → wx.cell? ⟨b, pk * 5 + j, none⟩ = some y := fun wx b hh j y hj => by
      rw [← hv] at hj
      exact hh.cell (vc_get (by rw [hlen.out]; exact hp4) j y hj)
    obtain ⟨plo, hplo⟩ : ∃ x, pd.lo = x := ⟨_, rfl⟩
    obtain ⟨phi, hphi⟩ : ∃ x, pd.hi = x := ⟨_, rfl⟩
    have kP2 := kP.out
    unfold planCells at kP2
    rw [hplo, hphi, g3] at kP2
    rw [hplo, hphi] at hwt
    replace kP := Lib.hid kP2
    clear kP2 hplo hphi hbl bdl hwi hcol hI hvs h3 hfp hpd hG
    replace hix := Lib.hid hix
    replace hwt := Lib.hid hwt
    replace hcv := Lib.hid hcv
    replace hv := Lib.hid hv
    refine wp_region_part [10, 13, 15, 17, 18, 23] [[], [0], [1], [2], [3], [4]] [] (ChC (MsC w15 LL (MsL pk (ki : Int) (.agg #[.int .u8 (v.ty : Int), .bool v.nl, .int .i64 v.n, .string v.tx, .bool v.b]))) 6) (by kernel_rfl) (by kernel_rfl) (by kernel_rfl) (ChC.start (MsC.start w15)) (ChC.ex (MsC.ex)) (fun Hf hx => ?_)
    obtain ⟨w', hx⟩ := hx
    obtain ⟨bq, v0e, v1e, v2e, v3e, v4e, v5e, _⟩ := MsC.done hx.done
    clear hx
    have kA : ∀ {nds : List Nat} {wx : World}, clsP (ChC (MsC w15 LL (MsL pk (ki : Int) (.agg #[.int .u8 (v.ty : Int), .bool v.nl, .int .i64 v.n, .string v.tx, .bool v.b]))) 6) Hf nds wx → Below W12.heap.size W12 wx := fun h => by
      obtain ⟨vs, _, h2, _⟩ := ChC.at h
      exact hb15e.out.trans (h2.1.mono hb15e.out.size)
    have b1 : decide ((0 : Int) ≤ (pk : Int)) = true := decide_eq_true (by omega)
    have b2 : decide ((0 : Int) ≤ (ki : Int)) = true := decide_eq_true (by omega)
    refine part_chunk [] 10 0 _ _ (by kernel_rfl) (by kernel_rfl) (by decide) ?_
    simp only [List.take_succ_cons, List.take_zero, List.drop_succ_cons, List.drop_zero]
    iterate 1 (go_big_quiet_want; go_big_quiet_op; first | go_big_quiet_on | (refine ⟨_, fun _ _ => rfl, ?_⟩; go_big_quiet_on))
    go_big_quiet_want; go_big_quiet_op
    refine ⟨.int .u8 3, fun wx hx => by simp [go_sem, (kP.out wx (kA hx)).cell (o := 0) rfl], ?_⟩
    go_big_quiet_on
    go_big_quiet_want; go_big_quiet_op
    refine ⟨.bool false, fun wx hx => by first | rfl | (simp [go_sem]; done), ?_⟩
    go_big_quiet_on
    iterate 1 (go_big_quiet_want; go_big_quiet_op; first | go_big_quiet_on | (refine ⟨_, fun _ _ => rfl, ?_⟩; go_big_quiet_on))
    iterate 1 (go_big_quiet_want; go_big_quiet_op; first | go_big_quiet_on | (refine ⟨_, fun _ _ => rfl, ?_⟩; go_big_quiet_on))
    go_big_quiet_want; go_big_quiet_op
    refine ⟨.bool true, fun wx hx => by simp [go_sem, b1], ?_⟩
    go_big_quiet_on
    iterate 1 (go_big_quiet_want; go_big_quiet_op; first | go_big_quiet_on | (refine ⟨_, fun _ _ => rfl, ?_⟩; go_big_quiet_on))
    go_big_quiet_want; go_big_quiet_op
    refine ⟨.agg #[.string tagS, .int .i64 1, .slice ca 4 ct, .slice ia il ic, .int .u64 0, .int .u64 0], fun wx hx => by simp [go_sem, (kT.out wx (kA hx)).cell (o := 0) rfl, (kT.out wx (kA hx)).cell (o := 1) rfl, (kT.out wx (kA hx)).cell (o := 2) rfl, (kT.out wx (kA hx)).cell (o := 3) rfl, (kT.out wx (kA hx)).cell (o := 4) rfl, (kT.out wx (kA hx)).cell (o := 5) rfl], ?_⟩
    go_big_quiet_on
    iterate 1 (go_big_quiet_want; go_big_quiet_op; first | go_big_quiet_on | (refine ⟨_, fun _ _ => rfl, ?_⟩; go_big_quiet_on))
    go_big_quiet_want; go_big_quiet_op
    refine ⟨.string pd.col, fun wx hx => by simp [go_sem, (kP.out wx (kA hx)).cell (o := 1) rfl], ?_⟩
    go_big_quiet_on
    refine wpQuiet_nil ?_
    refine part_step (s := 0) v0e (by go_simp; exact rfl) (by kernel_rfl) (by kernel_rfl) (fun H wx hs' hn' hp' hc' => ?_) ?_
    · obtain ⟨vs', hl', hPh, hj', hk'⟩ := ChC.step hc' hn' (.inl rfl) (by decide) hs'
      have hA' := hb15e.out.trans (hPh.1.mono hb15e.out.size)
      refine callUpon_mk (f := 27) (args := #[.agg #[.string tagS, .int .i64 1, .slice ca 4 ct, .slice ia il ic, .int .u64 0, .int .u64 0], .string pd.col]) (by simp [go_sem]) ?_
      exact (hix.out wx hA').mono fun e w'' ⟨he, hw2⟩ => ⟨_, he, hk' _ _ (MsC.next0 hl' hPh hw2)⟩
    refine part_chunk [] 2 _ _ _ (by kernel_rfl) (by kernel_rfl) (by decide) ?_
    simp only [List.take_succ_cons, List.take_zero, List.drop_succ_cons, List.drop_zero]
    go_big_quiet_want; go_big_quiet_op
    refine ⟨.bool true, fun wx hx => by simp [go_sem, b2], ?_⟩
    go_big_quiet_on
    go_big_quiet_want; go_big_quiet_op
    refine ⟨.bool true, fun wx hx => by first | rfl | (simp [go_sem]; done), ?_⟩
    go_big_quiet_on
    refine wpQuiet_nil ?_
    refine part_step (s := 1) v1e (by go_simp; exact rfl) (by kernel_rfl) (by kernel_rfl) (fun H wx hs' hn' hp' hc' => ?_) ?_
    · obtain ⟨vs', hl', hPh, hj', hk'⟩ := ChC.step hc' hn' (.inr (hp' 0 (by simp))) (by decide) hs'
      have hA' := hb15e.out.trans (hPh.1.mono hb15e.out.size)
      exact callUpon_value (by simp [go_sem]; try rfl) (hk' _ _ (MsC.next1 hl' hPh))
    refine part_chunk [] 1 _ _ _ (by kernel_rfl) (by kernel_rfl) (by decide) ?_
    simp only [List.take_succ_cons, List.take_zero, List.drop_succ_cons, List.drop_zero]
    go_big_quiet_want; go_big_quiet_op
    refine ⟨.agg #[.int .u32 (id : Int), .int .i32 a, .int .i32 d, .string bs, .bool c, .int .u8 (nu : Int)], fun wx hx => by simp [go_sem, (kR.out wx (kA hx)).cell (o := 0) rfl, (kR.out wx (kA hx)).cell (o := 1) rfl, (kR.out wx (kA hx)).cell (o := 2) rfl, (kR.out wx (kA hx)).cell (o := 3) rfl, (kR.out wx (kA hx)).cell (o := 4) rfl, (kR.out wx (kA hx)).cell (o := 5) rfl], ?_⟩
    go_big_quiet_on
    refine wpQuiet_nil ?_
    refine part_step (s := 2) v2e (by go_simp; exact rfl) (by kernel_rfl) (by kernel_rfl) (fun H wx hs' hn' hp' hc' => ?_) ?_
    · obtain ⟨vs', hl', hPh, hj', hk'⟩ := ChC.step hc' hn' (.inr (hp' 1 (by simp))) (by decide) hs'
      have hA' := hb15e.out.trans (hPh.1.mono hb15e.out.size)
      refine callUpon_mk (f := 19) (args := #[.agg #[.int .u32 (id : Int), .int .i32 a, .int .i32 d, .string bs, .bool c, .int .u8 (nu : Int)]]) (by simp [go_sem]) ?_
      exact (cV.out wx).mono fun e w'' hv => by
        obtain ⟨b, he, hh, hbb, hw⟩ := hv
        exact ⟨_, he, hk' _ _ (MsC.next2 hl' hPh hh hw)⟩
    refine part_chunk [] 1 _ _ _ (by kernel_rfl) (by kernel_rfl) (by decide) ?_
    simp only [List.take_succ_cons, List.take_zero, List.drop_succ_cons, List.drop_zero]
    iterate 1 (go_big_quiet_want; go_big_quiet_op; first | go_big_quiet_on | (refine ⟨_, fun _ _ => rfl, ?_⟩; go_big_quiet_on))
    refine wpQuiet_nil ?_
    refine part_step (s := 3) v3e (by go_simp; exact rfl) (by kernel_rfl) (by kernel_rfl) (fun H wx hs' hn' hp' hc' => ?_) ?_
    · obtain ⟨vs', hl', hPh, hj', hk'⟩ := ChC.step hc' hn' (.inr (hp' 2 (by simp))) (by decide) hs'
      have hA' := hb15e.out.trans (hPh.1.mono hb15e.out.size)
      obtain ⟨hbe, hh⟩ := MsC.at3 hl' hPh hj' v2e
      exact callUpon_value (by simp [go_sem, hp4]; try omega) (hk' _ _ (MsC.next3 hl' hPh hj' v2e))
    refine part_step (s := 4) v4e (by go_simp; exact rfl) (by kernel_rfl) (by kernel_rfl) (fun H wx hs' hn' hp' hc' => ?_) ?_
    · obtain ⟨vs', hl', hPh, hj', hk'⟩ := ChC.step hc' hn' (.inr (hp' 3 (by simp))) (by decide) hs'
      have hA' := hb15e.out.trans (hPh.1.mono hb15e.out.size)
      obtain ⟨hbe, hh⟩ := MsC.at4 hl' hPh hj' v2e
      have c0 := hcv.out _ _ hh 0 _ rfl
      have c1 := hcv.out _ _ hh 1 _ rfl
      have c2 := hcv.out _ _ hh 2 _ rfl
      have c3 := hcv.out _ _ hh 3 _ rfl
      have c4 := hcv.out _ _ hh 4 _ rfl
      simp only [Nat.add_zero] at c0
      exact callUpon_value (by simp [go_sem, c0, c1, c2, c3, c4]; try rfl) (hk' _ _ (MsC.next4 hl' hPh hj' v2e))
    refine part_chunk [] 4 _ _ _ (by kernel_rfl) (by kernel_rfl) (by decide) ?_
    simp only [List.take_succ_cons, List.take_zero, List.drop_succ_cons, List.drop_zero]
    iterate 1 (go_big_quiet_want; go_big_quiet_op; first | go_big_quiet_on | (refine ⟨_, fun _ _ => rfl, ?_⟩; go_big_quiet_on))
    go_big_quiet_want; go_big_quiet_op
    refine ⟨.agg #[.int .u8 (plo.ty : Int), .bool plo.nl, .int .i64 plo.n, .string plo.tx, .bool plo.b], fun wx hx => by simp [go_sem, (kP.out wx (kA hx)).cell (o := 2) rfl, (kP.out wx (kA hx)).cell (o := 3) rfl, (kP.out wx (kA hx)).cell (o := 4) rfl, (kP.out wx (kA hx)).cell (o := 5) rfl, (kP.out wx (kA hx)).cell (o := 6) rfl], ?_⟩
    go_big_quiet_on
    iterate 1 (go_big_quiet_want; go_big_quiet_op; first | go_big_quiet_on | (refine ⟨_, fun _ _ => rfl, ?_⟩; go_big_quiet_on))
    go_big_quiet_want; go_big_quiet_op
    refine ⟨.agg #[.int .u8 (phi.ty : Int), .bool phi.nl, .int .i64 phi.n, .string phi.tx, .bool phi.b], fun wx hx => by simp [go_sem, (kP.out wx (kA hx)).cell (o := 7) rfl, (kP.out wx (kA hx)).cell (o := 8) rfl, (kP.out wx (kA hx)).cell (o := 9) rfl, (kP.out wx (kA hx)).cell (o := 10) rfl, (kP.out wx (kA hx)).cell (o := 11) rfl], ?_⟩
    go_big_quiet_on
    refine wpQuiet_nil ?_
    refine part_step (s := 5) v5e (by go_simp; exact rfl) (by kernel_rfl) (by kernel_rfl) (fun H wx hs' hn' hp' hc' => ?_) ?_
    · obtain ⟨vs', hl', hPh, hj', hk'⟩ := ChC.step hc' hn' (.inr (hp' 4 (by simp))) (by decide) hs'
      have hA' := hb15e.out.trans (hPh.1.mono hb15e.out.size)
      refine callUpon_mk (f := 21) (args := #[.agg #[.int .u8 (v.ty : Int), .bool v.nl, .int .i64 v.n, .string v.tx, .bool v.b], .agg #[.int .u8 (plo.ty : Int), .bool plo.nl, .int .i64 plo.n, .string plo.tx, .bool plo.b], .agg #[.int .u8 (phi.ty : Int), .bool phi.nl, .int .i64 phi.n, .string phi.tx, .bool phi.b]]) (by simp [go_sem]) ?_
      exact (hwt.out wx hA').mono fun e w'' ⟨he, hw2⟩ => ⟨_, he, hk' _ _ (MsC.next5 hl' hPh hw2)⟩
    refine part_chunk [] 3 _ _ _ (by kernel_rfl) (by kernel_rfl) (by decide) ?_
    simp only [List.take_succ_cons, List.take_zero, List.drop_succ_cons, List.drop_zero]
    go_big_quiet_want; go_big_quiet_op
    refine ⟨.bool true, fun wx hx => by first | rfl | (simp [go_sem]; done), ?_⟩
    go_big_quiet_on
    go_big_quiet_want; go_big_quiet_op
    refine ⟨.bool true, fun wx hx => by first | rfl | (simp [go_sem]; done), ?_⟩
    go_big_quiet_on
    iterate 1 (go_big_quiet_want; go_big_quiet_op; first | go_big_quiet_on | (refine ⟨_, fun _ _ => rfl, ?_⟩; go_big_quiet_on))
    refine wpQuiet_nil ?_
    intro w16 hz16
    have hb16 := (hz16.done).1
    have fn16 := Lib.hid (fn.out w16 hb16)
    clear hz16 hb16 v0e v1e v2e v3e v4e v5e kA
    go_wp2_with fail
    exact fn16.out
end Go.Proofs.YtgnoikfmhncbmaaGreatDoor
