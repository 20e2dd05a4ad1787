/- Both devices in memory: the program's and the reference's, in the state of one and the same Dv. -/
import Derived.Test.YtikjpklbbjmioaaProg
import Derived.Test.YtikjpklbbjmioaaD0
import Derived.Test.YtikjpklbbjmioaaD1
import Derived.Maps.Own
import Derived.Maps.OwnOps
import Derived.Maps.RangeWalk
namespace Go.Proofs.Ytikjpklbbjmioaa
open Go.RowKit Go.Maps

theorem key3 : Keyed Try.prog 3 := int_keyed Try.underlying3
theorem zero46 (w : World) : (zeroValue 22).run Try.prog w = .ok (.int .u64 0) w := by kernel_rfl
theorem infoW : (Try.prog.info? 144).map (fun i => (i.zero, i.size, i.bytes)) = some (some (.agg #[.int .u64 0, .int .u64 0]), 2, 16) := by kernel_rfl
theorem infoRW : (Try.prog.info? 165).map (fun i => (i.zero, i.size, i.bytes)) = some (some (.agg #[.int .u64 0, .int .u64 0]), 2, 16) := by kernel_rfl
theorem infoU64 : (Try.prog.info? 22).map (fun i => (i.zero, i.size, i.bytes)) = some (some (.int .u64 0), 1, 8) := by kernel_rfl
theorem infoInt : (Try.prog.info? 3).map (fun i => (i.zero, i.size, i.bytes)) = some (some (.int .i64 0), 1, 8) := by kernel_rfl
theorem infoU8 : (Try.prog.info? 5).map (fun i => (i.zero, i.size, i.bytes)) = some (some (.int .u8 0), 1, 1) := by kernel_rfl
theorem wf_i64 {n : Nat} (h : n < 9223372036854775808) : (Lit.int .i64 (n : Int)).wf = true := WalkArith.wf_i64 (by omega)
theorem wf_u64 {n : Nat} (h : n < 18446744073709551616) : (Lit.int .u64 (n : Int)).wf = true := by
  simp only [Lit.wf, Bool.and_eq_true, decide_eq_true_eq]
  exact ⟨by rw [show IntKind.min .u64 = 0 from by decide]; omega, by rw [show IntKind.max .u64 = 18446744073709551615 from by decide]; omega⟩

def u64s (l : List Nat) : List Value := l.map fun (n : Nat) => .int .u64 (n : Int)
def nats (l : List Nat) : List Value := l.map fun (n : Nat) => .int .i64 (n : Int)
def u8s (l : List Nat) : List Value := l.map fun (n : Nat) => .int .u8 (n : Int)
theorem u64s_get (l : List Nat) (i n : Nat) (h : l[i]? = some n) : (u64s l)[i]? = some (.int .u64 (n : Int)) := by simp [u64s, h]
theorem nats_get (l : List Nat) (i n : Nat) (h : l[i]? = some n) : (nats l)[i]? = some (.int .i64 (n : Int)) := by simp [nats, h]
theorem u8s_get (l : List Nat) (i n : Nat) (h : l[i]? = some n) : (u8s l)[i]? = some (.int .u8 (n : Int)) := by simp [u8s, h]
theorem u64s_set (l : List Nat) (i v : Nat) : u64s (l.set i v) = (u64s l).set i (.int .u64 (v : Int)) := by unfold u64s; rw [List.map_set]
theorem u64s_len (l : List Nat) : (u64s l).length = l.length := by simp [u64s]
/-- A word of a list (a plain name, so that nothing opens it). -/
def wat (ws : List Nat) (j : Nat) : Nat := ws.getD j 0
def wcells (ws : List (Nat × Nat)) : List Value := ws.flatMap fun p => [.int .u64 p.1, .int .u64 p.2]
theorem wcells_get : ∀ (ws : List (Nat × Nat)) (i : Nat) (p : Nat × Nat), ws[i]? = some p → (wcells ws)[i * 2]? = some (.int .u64 p.1) ∧ (wcells ws)[i * 2 + 1]? = some (.int .u64 p.2)
  | q :: ws, 0, p, h => by simp at h; subst h; exact ⟨rfl, rfl⟩
  | q :: ws, i + 1, p, h => by
    have := wcells_get ws i p (by simpa using h)
    have e1 : (i + 1) * 2 = i * 2 + 2 := by omega
    rw [e1]
    exact this
  | [], _, _, h => by simp at h
theorem wcells_len (ws : List (Nat × Nat)) : (wcells ws).length = ws.length * 2 := by
  induction ws with
  | nil => rfl
  | cons s l ih => simp only [wcells, List.flatMap_cons, List.length_append, List.length_cons] at *; rw [ih]; show 2 + _ = _; omega
theorem wcells_snoc (ws : List (Nat × Nat)) (p : Nat × Nat) : wcells (ws ++ [p]) = wcells ws ++ [.int .u64 p.1, .int .u64 p.2] := by simp [wcells]
theorem wcells_append (ws vs : List (Nat × Nat)) : wcells (ws ++ vs) = wcells ws ++ wcells vs := by simp [wcells]
theorem wcells_drop (ws : List (Nat × Nat)) (k : Nat) : (wcells ws).drop (k * 2) = wcells (ws.drop k) := by
  have h := wcells_append (ws.take k) (ws.drop k)
  rw [List.take_append_drop] at h
  rw [h]
  rcases Nat.lt_or_ge ws.length k with hk | hk
  · rw [List.drop_eq_nil_of_le (Nat.le_of_lt hk), List.drop_eq_nil_of_le (by rw [List.length_append, wcells_len, List.length_take]; simp [wcells]; omega)]; rfl
  · have : k * 2 = (wcells (ws.take k)).length := by rw [wcells_len, List.length_take]; omega
    rw [this, List.drop_left]
theorem wcells_take (ws : List (Nat × Nat)) (k : Nat) : (wcells ws).take (k * 2) = wcells (ws.take k) := by
  have h := wcells_append (ws.take k) (ws.drop k)
  rw [List.take_append_drop] at h
  rw [h]
  rcases Nat.lt_or_ge ws.length k with hk | hk
  · rw [List.drop_eq_nil_of_le (Nat.le_of_lt hk)]
    rw [List.take_of_length_le (by rw [List.length_append, wcells_len, List.length_take]; simp [wcells]; omega)]; simp [wcells]
  · have : k * 2 = (wcells (ws.take k)).length := by rw [wcells_len, List.length_take]; omega
    rw [this, List.take_left]

/-- A thread's notes as a map. -/
def noteF (ns : List (Nat × Nat)) (l : Nat) : Option Nat := (ns.find? (fun x => decide (x.1 = l))).map Prod.snd
def NoteV (w : World) (b T n : Nat) (f : Nat → Option Nat) : Prop :=
  ∃ D : DataW Unit, w.ownsMap Try.prog 3 (plainElem Try.prog 22) b T D ∧ IsMap D ∧ (∀ kl : Lit, has D kl = true → ∃ k : Nat, k < n ∧ kl = .int .i64 k) ∧
    (∀ k : Nat, has D (.int .i64 k) = (f k).isSome) ∧ ∀ k c : Nat, f k = some c → ∀ z, D.atKey (.int .i64 k) z = .lit (.int .u64 c)
theorem NoteV.only {S : Nat → Prop} {w w' : World} {b T n : Nat} {f : Nat → Option Nat} (h : NoteV w b T n f) (ho : Only S w w') (hs : ¬ S b) : NoteV w' b T n f := by
  obtain ⟨D, h1, h2⟩ := h
  obtain ⟨es, cl, hb, r⟩ := h1
  exact ⟨D, ⟨es, cl, (ho.block b (heap_lt hb) hs).trans hb, r⟩, h2⟩
theorem NoteV.up {w : World} {b T T' n : Nat} {f : Nat → Option Nat} (h : NoteV w b T n f) (ht : T ≤ T') : NoteV w b T' n f := by
  obtain ⟨D, h1, h2⟩ := h; exact ⟨D, h1.mono ht, h2⟩
theorem NoteV.lt {w : World} {b T n : Nat} {f : Nat → Option Nat} (h : NoteV w b T n f) : b < w.heap.size := by
  obtain ⟨D, ⟨es, cl, hb, _⟩, _⟩ := h; exact heap_lt hb
theorem NoteV.put {w' : World} {b T n l c : Nat} {f : Nat → Option Nat} {D : DataW Unit} (hl : l < n) (hl2 : l < 9223372036854775808) (hD2 : IsMap D)
    (hD3 : ∀ kl : Lit, has D kl = true → ∃ k : Nat, k < n ∧ kl = .int .i64 k) (hD4 : ∀ k : Nat, has D (.int .i64 k) = (f k).isSome) (hD5 : ∀ k c : Nat, f k = some c → ∀ z, D.atKey (.int .i64 k) z = .lit (.int .u64 c))
    (h : w'.ownsMap Try.prog 3 (plainElem Try.prog 22) b T (D.put (.int .i64 l) (.lit (.int .u64 c)))) : NoteV w' b T n (fun k => if k = l then some c else f k) := by
  have hk := key3.key (keyOf_int_mk Try.underlying3 (wf_i64 hl2))
  refine ⟨_, h, hD2.put _ _, ?_, ?_, ?_⟩
  · intro kl hh
    by_cases he : kl = .int .i64 l
    · exact ⟨l, hl, he⟩
    · rw [has_put_other he] at hh; exact hD3 kl hh
  · intro k
    by_cases he : k = l
    · subst he; rw [has_put_same hD2 hk]; simp
    · rw [has_put_other (by intro h; injection h with _ h; omega)]; simp only [if_neg he]; exact hD4 k
  · intro k c' hc z
    simp only at hc
    by_cases he : k = l
    · subst he; rw [if_pos rfl] at hc; cases hc; exact atKey_put_same hD2 hk _ _
    · rw [if_neg he] at hc; rw [atKey_put_other (by intro h; injection h with _ h; omega)]; exact hD5 k c' hc z
theorem NoteV.none {w : World} {b T n : Nat} (h : w.ownsMap Try.prog 3 (plainElem (H := Unit) Try.prog 22) b 0 (.map [])) : NoteV w b T n (fun _ => none) :=
  ⟨.map [], h.mono (Nat.zero_le _), ⟨[], rfl⟩, fun kl hk => by simp [has] at hk, fun k => rfl, fun k c hc => by cases hc⟩
theorem noteF_noteL (ns : List (Nat × Nat)) (l c : Nat) : noteF (noteL ns l c) = fun k => if k = l then some c else noteF ns k := by
  funext k
  unfold noteF noteL
  rw [List.find?_append]
  by_cases hk : k = l
  · subst hk
    rw [if_pos rfl]
    have : (ns.filter (fun x => decide (x.1 ≠ k))).find? (fun x => decide (x.1 = k)) = none := by
      rw [List.find?_eq_none]; intro x hx; rw [List.mem_filter] at hx; simpa using hx.2
    rw [this]; simp
  · rw [if_neg hk, List.find?_filter]
    have e : (fun a : Nat × Nat => (decide (decide (a.1 ≠ l) = true ∧ decide (a.1 = k) = true) : Bool)) = fun a => decide (a.1 = k) := by
      funext a; apply decide_eq_decide.2; constructor
      · rintro ⟨_, h⟩; simpa using h
      · intro h; simp [h, hk]
    rw [e]
    have : [(l, c)].find? (fun x : Nat × Nat => decide (x.1 = k)) = none := by simp only [List.find?_cons, List.find?_nil, decide_eq_false (show ¬ l = k from fun h => hk h.symm)]
    rw [this]; simp

/-- Where the program's device lies. -/
structure Lay where
  g : Nat
  pb : Nat
  pc : Nat
  cb : Nat
  cc : Nat
  lb : Nat
  tb : Nat → Nat
  nb : Nat → Nat
def devCells (L : Lay) (R : Dv) : List Value :=
  [.slice (some ⟨L.pb, 0, none⟩) (R.lines.length * 8) L.pc, .slice (some ⟨L.cb, 0, none⟩) (R.lines.length * 8) L.cc, .slice (some ⟨L.lb, 0, none⟩) R.lines.length R.lines.length,
   .pointer (some ⟨L.tb 0, 0, none⟩), .pointer (some ⟨L.tb 1, 0, none⟩), .pointer (some ⟨L.tb 2, 0, none⟩), .pointer (some ⟨L.tb 3, 0, none⟩), .pointer (some ⟨L.tb 4, 0, none⟩), .pointer (some ⟨L.tb 5, 0, none⟩), .pointer (some ⟨L.tb 6, 0, none⟩), .pointer (some ⟨L.tb 7, 0, none⟩),
   .bool R.off, .bool (decide (0 ≤ R.left)), .int .i64 (max R.left 0), .int .u64 (R.exe : Int)]
theorem devCells_thr (L : Lay) (R : Dv) (t : Nat) (ht : t < 8) : (devCells L R)[3 + t]? = some (.pointer (some ⟨L.tb t, 0, none⟩)) := by
  match t, ht with
  | 0, _ | 1, _ | 2, _ | 3, _ | 4, _ | 5, _ | 6, _ | 7, _ => rfl
def thrCells (L : Lay) (R : Dv) (t : Nat) : List Value := [.pointer (some ⟨L.g, 0, none⟩), .int .i64 (t : Int), .int .i64 ((R.errs.getD t 0 : Nat) : Int), .map (some (L.nb t))]
/-- What the lines' block holds. -/
def LinSt (w : World) (F : Own) (o lb : Nat) (R : Dv) : Prop :=
  ∃ (cs : List Value) (hv : Nat → Value), Has w lb cs 137 ∧ cs.length = R.lines.length * 2 ∧ ∀ i, i < R.lines.length → cs[i * 2]? = some (.int .u64 ((R.line i).done : Int)) ∧ cs[i * 2 + 1]? = some (hv i) ∧
    SubV w 144 2 (hv i) (R.line i).hist.length (wcells (R.line i).hist) ∧ ∀ k, (hv i).ownBlock = some k → F k = some (o, 4, i)
structure DevSt (w : World) (F : Own) (o : Nat) (L : Lay) (T : Nat) (R : Dv) : Prop where
  ok : R.Ok T
  dev : Has w L.g (devCells L R) 94
  fg : F L.g = some (o, 0, 0)
  per : w.ownsRow 0 22 1 (.slice (some ⟨L.pb, 0, none⟩) (R.lines.length * 8) L.pc) (R.lines.length * 8) (u64s R.perW)
  fp : F L.pb = some (o, 1, 0)
  cur : w.ownsRow 0 22 1 (.slice (some ⟨L.cb, 0, none⟩) (R.lines.length * 8) L.cc) (R.lines.length * 8) (u64s R.curW)
  fc : F L.cb = some (o, 2, 0)
  lin : LinSt w F o L.lb R
  fl : F L.lb = some (o, 3, 0)
  thr : ∀ t, t < 8 → Has w (L.tb t) (thrCells L R t) 97 ∧ F (L.tb t) = some (o, 5, t)
  nov : ∀ t, t < 8 → NoteV w (L.nb t) T R.lines.length (noteF (R.notes.getD t [])) ∧ F (L.nb t) = some (o, 6, t)

theorem LinSt.kept {S : Nat → Prop} {w w' : World} {F F' : Own} {o lb : Nat} {R : Dv} (h : LinSt w F o lb R) (hl : F lb = some (o, 3, 0)) (ho : Only S w w') (hx : Ext w F F') (hs : ∀ k, S k → F k ≠ some (o, 3, 0) ∧ ∀ i, F k ≠ some (o, 4, i)) : LinSt w' F' o lb R := by
  obtain ⟨cs, hv, h1, h2, h3⟩ := h
  refine ⟨cs, hv, h1.only ho (fun s => (hs _ s).1 hl), h2, fun i hi => ?_⟩
  obtain ⟨a, b, c, d⟩ := h3 i hi
  exact ⟨a, b, c.only ho (fun k hk s => (hs k s).2 i (d k hk)), fun k hk => (hx k (c.lt hk)).trans (d k hk)⟩
theorem DevSt.kept {S : Nat → Prop} {w w' : World} {F F' : Own} {o T : Nat} {L : Lay} {R : Dv} (h : DevSt w F o L T R) (ho : Only S w w') (hx : Ext w F F') (hs : ∀ k r, S k → F k ≠ some (o, r)) : DevSt w' F' o L T R := by
  have e : ∀ {b r}, F b = some (o, r) → b < w.heap.size → F' b = some (o, r) := fun h1 h2 => (hx _ h2).trans h1
  refine ⟨h.ok, h.dev.only ho (fun s => hs _ _ s h.fg), e h.fg h.dev.lt, ownsRow_only h.per ho ?_, e h.fp (ownsRow_lt h.per rfl), ownsRow_only h.cur ho ?_, e h.fc (ownsRow_lt h.cur rfl),
    h.lin.kept h.fl ho hx (fun k s => ⟨hs k _ s, fun i => hs k _ s⟩), ?_, fun t ht => ?_, fun t ht => ?_⟩
  · rintro k hk s; cases hk; exact hs _ _ s h.fp
  · rintro k hk s; cases hk; exact hs _ _ s h.fc
  · obtain ⟨cs, hv, h1, _⟩ := h.lin; exact e h.fl h1.lt
  · obtain ⟨h1, h2⟩ := h.thr t ht; exact ⟨h1.only ho (fun s => hs _ _ s h2), e h2 h1.lt⟩
  · obtain ⟨h1, h2⟩ := h.nov t ht; exact ⟨h1.only ho (fun s => hs _ _ s h2), e h2 h1.lt⟩
theorem DevSt.below {w w' : World} {F : Own} {o T : Nat} {L : Lay} {R : Dv} (h : DevSt w F o L T R) (hb : Below w.heap.size w w') : DevSt w' F o L T R :=
  have hO : Only (fun _ => False) w w' := ⟨hb.os, hb.tape, hb.output, hb.size, fun k hk _ => hb.block k hk⟩
  h.kept hO (Ext.refl _ _) (fun _ _ s => s.elim)
theorem DevSt.drewN {w : World} {F : Own} {o T : Nat} {L : Lay} {R : Dv} (h : DevSt w F o L T R) (n : Nat) : DevSt (w.drewN n) F o L T R := h.kept ((Only.refl (fun _ => False) w).drewN n) (Ext.refl _ _) (fun _ _ s => s.elim)
theorem DevSt.alloc {w : World} {F : Own} {o T : Nat} {L : Lay} {R : Dv} (h : DevSt w F o L T R) (x : Obj) : DevSt (w.alloc x) F o L T R := h.kept ((Only.refl (fun _ => False) w).alloc x) (Ext.refl _ _) (fun _ _ s => s.elim)
theorem DevSt.up {w : World} {F : Own} {o T T' : Nat} {L : Lay} {R : Dv} (h : DevSt w F o L T R) (ht : T ≤ T') (h2 : T' ≤ 100000) : DevSt w F o L T' R :=
  ⟨h.ok.up ht h2, h.dev, h.fg, h.per, h.fp, h.cur, h.fc, h.lin, h.fl, h.thr, fun t h8 => ⟨(h.nov t h8).1.up ht, (h.nov t h8).2⟩⟩

/-- A slice that is only read, in a block with a role. -/
def RdO (w : World) (F : Own) (r : Nat × Nat × Nat) (v : Value) (n : Nat) (cells : List Value) : Prop := Rd w v n cells ∧ (cells ≠ [] → ∀ k, v.ownBlock = some k → F k = some r) ∧ ∀ a m c, v = .slice a m c → m ≤ c ∧ (a = none → c = 0)
theorem RdO.kept {S : Nat → Prop} {w w' : World} {F F' : Own} {r : Nat × Nat × Nat} {v : Value} {n : Nat} {cells : List Value} (h : RdO w F r v n cells) (ho : Only S w w') (hx : Ext w F F') (hs : ∀ k, S k → F k ≠ some r) : RdO w' F' r v n cells := by
  by_cases hc : cells = []
  · subst hc
    obtain ⟨⟨a, cap, rfl, h1⟩, _, hcap⟩ := h
    refine ⟨⟨a, cap, rfl, ?_⟩, fun h => absurd rfl h, hcap⟩
    rcases h1 with h1 | ⟨b, off, rfl, _⟩
    · exact .inl h1
    · exact .inr ⟨b, off, rfl, fun j u hj => by simp at hj⟩
  · have hk := h.2.1 hc
    exact ⟨h.1.only ho (fun k e s => hs k s (hk k e)), fun _ k e => (hx k (h.1.lt hc e)).trans (hk k e), h.2.2⟩
theorem own_cap {w : World} {e : TypeId} {size n : Nat} {v : Value} {xs : List Value} (h : w.ownsRow 0 e size v n xs) : ∀ a m c, v = .slice a m c → m ≤ c ∧ (a = none → c = 0) := by
  rintro a m c rfl
  rcases h.2 with ⟨h1, _⟩ | ⟨g, cap, cur, h1, _, _, h2, _⟩
  · cases h1; exact ⟨Nat.le_refl _, fun _ => rfl⟩
  · cases h1; exact ⟨h2, fun h => by cases h⟩
def noteCells (ns : List (Nat × Nat)) : List Value := ns.flatMap fun p => [.int .i64 p.1, .int .i64 p.2]
def refCells (lb lc : Nat) (ns : Nat → Value) (R : Dv) : List Value :=
  [.slice (some ⟨lb, 0, none⟩) R.lines.length lc, ns 0, ns 1, ns 2, ns 3, ns 4, ns 5, ns 6, ns 7,
   .int .i64 ((R.errs.getD 0 0 : Nat) : Int), .int .i64 ((R.errs.getD 1 0 : Nat) : Int), .int .i64 ((R.errs.getD 2 0 : Nat) : Int), .int .i64 ((R.errs.getD 3 0 : Nat) : Int),
   .int .i64 ((R.errs.getD 4 0 : Nat) : Int), .int .i64 ((R.errs.getD 5 0 : Nat) : Int), .int .i64 ((R.errs.getD 6 0 : Nat) : Int), .int .i64 ((R.errs.getD 7 0 : Nat) : Int),
   .int .i64 R.left, .bool R.off, .int .u64 (R.exe : Int)]
theorem refCells_note (lb lc : Nat) (ns : Nat → Value) (R : Dv) (t : Nat) (ht : t < 8) : (refCells lb lc ns R)[1 + t]? = some (ns t) := by
  match t, ht with
  | 0, _ | 1, _ | 2, _ | 3, _ | 4, _ | 5, _ | 6, _ | 7, _ => rfl
theorem refCells_err (lb lc : Nat) (ns : Nat → Value) (R : Dv) (t : Nat) (ht : t < 8) : (refCells lb lc ns R)[9 + t]? = some (.int .i64 ((R.errs.getD t 0 : Nat) : Int)) := by
  match t, ht with
  | 0, _ | 1, _ | 2, _ | 3, _ | 4, _ | 5, _ | 6, _ | 7, _ => rfl
/-- What the reference's lines hold. -/
def RLinSt (w : World) (F : Own) (o lb lc : Nat) (R : Dv) : Prop :=
  ∃ (cs : List Value) (hv : Nat → Value), w.ownsRow 0 122 10 (.slice (some ⟨lb, 0, none⟩) R.lines.length lc) R.lines.length cs ∧ ∀ i, i < R.lines.length →
    (∀ j, j < 8 → cs[i * 10 + j]? = some (.int .u64 ((wat (R.line i).base j : Nat) : Int))) ∧ cs[i * 10 + 8]? = some (hv i) ∧ cs[i * 10 + 9]? = some (.int .i64 ((R.line i).done : Int)) ∧
    RdO w F (o, 2, i) (hv i) (R.line i).hist.length (wcells (R.line i).hist)
structure RefSt (w : World) (F : Own) (o h T : Nat) (R : Dv) : Prop where
  ok : R.Ok T
  ex : ∃ lb lc ns, Has w h (refCells lb lc ns R) 110 ∧ RLinSt w F o lb lc R ∧ F lb = some (o, 1, 0) ∧ ∀ t, t < 8 → RdO w F (o, 3, t) (ns t) (R.notes.getD t []).length (noteCells (R.notes.getD t []))
  fh : F h = some (o, 0, 0)
theorem RLinSt.kept {S : Nat → Prop} {w w' : World} {F F' : Own} {o lb lc : Nat} {R : Dv} (h : RLinSt w F o lb lc R) (hl : F lb = some (o, 1, 0)) (ho : Only S w w') (hx : Ext w F F') (hs : ∀ k, S k → F k ≠ some (o, 1, 0) ∧ ∀ i, F k ≠ some (o, 2, i)) : RLinSt w' F' o lb lc R := by
  obtain ⟨cs, hv, h1, h3⟩ := h
  refine ⟨cs, hv, ownsRow_only h1 ho (by rintro k hk s; cases hk; exact (hs _ s).1 hl), fun i hi => ?_⟩
  obtain ⟨a, b, c, d⟩ := h3 i hi
  exact ⟨a, b, c, d.kept ho hx (fun k s => (hs k s).2 i)⟩
theorem RefSt.kept {S : Nat → Prop} {w w' : World} {F F' : Own} {o h T : Nat} {R : Dv} (hr : RefSt w F o h T R) (ho : Only S w w') (hx : Ext w F F') (hs : ∀ k r, S k → F k ≠ some (o, r)) : RefSt w' F' o h T R := by
  obtain ⟨lb, lc, ns, h1, h2, h3, h4⟩ := hr.ex
  have hlb : lb < w.heap.size := by obtain ⟨cs, hv, h5, _⟩ := h2; exact ownsRow_lt h5 rfl
  exact ⟨hr.ok, ⟨lb, lc, ns, h1.only ho (fun s => hs _ _ s hr.fh), h2.kept h3 ho hx (fun k s => ⟨hs k _ s, fun i => hs k _ s⟩), (hx _ hlb).trans h3, fun t ht => (h4 t ht).kept ho hx (fun k s => hs k _ s)⟩, (hx _ h1.lt).trans hr.fh⟩
theorem RefSt.below {w w' : World} {F : Own} {o h T : Nat} {R : Dv} (hr : RefSt w F o h T R) (hb : Below w.heap.size w w') : RefSt w' F o h T R :=
  have hO : Only (fun _ => False) w w' := ⟨hb.os, hb.tape, hb.output, hb.size, fun k hk _ => hb.block k hk⟩
  hr.kept hO (Ext.refl _ _) (fun _ _ s => s.elim)
theorem RefSt.drewN {w : World} {F : Own} {o h T : Nat} {R : Dv} (hr : RefSt w F o h T R) (n : Nat) : RefSt (w.drewN n) F o h T R := hr.kept ((Only.refl (fun _ => False) w).drewN n) (Ext.refl _ _) (fun _ _ s => s.elim)
theorem RefSt.alloc {w : World} {F : Own} {o h T : Nat} {R : Dv} (hr : RefSt w F o h T R) (x : Obj) : RefSt (w.alloc x) F o h T R := hr.kept ((Only.refl (fun _ => False) w).alloc x) (Ext.refl _ _) (fun _ _ s => s.elim)
theorem RefSt.up {w : World} {F : Own} {o h T T' : Nat} {R : Dv} (hr : RefSt w F o h T R) (ht : T ≤ T') (h2 : T' ≤ 100000) : RefSt w F o h T' R := ⟨hr.ok.up ht h2, hr.ex, hr.fh⟩
end Go.Proofs.Ytikjpklbbjmioaa
