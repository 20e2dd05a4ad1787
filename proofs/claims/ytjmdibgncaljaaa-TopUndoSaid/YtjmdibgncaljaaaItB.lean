/- A range over an iterator that keeps state of its own in cells: the contract and the law. A range over an iterator with cells of its own whose loop variable is boxed. -/
import Derived.RangeFuncNested
import Derived.RangeFuncBound
import Derived.RangeFuncCalls
import Derived.RangeFuncLeaves
import Derived.WalkKit
import Derived.OwnWalkIn
import Derived.TacticsInMore
import Derived.LoopNIn
import Derived.LoopIn
import Derived.Test.YtjmdibgncaljaaaHeap
/-! A range over an iterator that keeps state of its own in cells: the contract and the law. -/
namespace Go.Proofs.Ytjmdibgncaljaaa
open Go.RowKit
/-- Nothing but the heap and the draws may differ. -/
def Out3 (A C : World) : Prop := C.os = A.os ∧ C.tape = A.tape ∧ C.output = A.output
theorem Out3.trans {A C E : World} (h : Out3 A C) (k : Out3 C E) : Out3 A E := ⟨k.1.trans h.1, k.2.1.trans h.2.1, k.2.2.trans h.2.2⟩
theorem Out3.of_below {n : Nat} {A C : World} (h : Below n A C) : Out3 A C := ⟨h.os, h.tape, h.output⟩
/-- A step that changes, of what there was, the blocks of c alone. -/
def ItStep (c : Nat → Prop) (A C : World) : Prop := A.heap.size ≤ C.heap.size ∧ (∀ k, k < A.heap.size → ¬ c k → C.heap[k]? = A.heap[k]?) ∧ Out3 A C
/-- As above, or a change of what is no cells and lies at or beyond D. -/
def Roll (D : Nat) (c : Nat → Prop) (A C : World) : Prop :=
  A.heap.size ≤ C.heap.size ∧ (∀ k o, A.heap[k]? = some o → ¬ c k → (k < D ∨ o.isCells = true) → C.heap[k]? = some o) ∧ Out3 A C
/-- The blocks of c lie as they lay. -/
def KeepB (c : Nat → Prop) (A C : World) : Prop := A.heap.size ≤ C.heap.size ∧ ∀ k o, c k → A.heap[k]? = some o → C.heap[k]? = some o
theorem ItStep.refl (c : Nat → Prop) (A : World) : ItStep c A A := ⟨Nat.le_refl _, fun _ _ _ => rfl, rfl, rfl, rfl⟩
theorem ItStep.trans {c : Nat → Prop} {A C E : World} (h : ItStep c A C) (k : ItStep c C E) : ItStep c A E :=
  ⟨Nat.le_trans h.1 k.1, fun i hi hc => (k.2.1 i (Nat.lt_of_lt_of_le hi h.1) hc).trans (h.2.1 i hi hc), h.2.2.trans k.2.2⟩
theorem ItStep.of_below {c : Nat → Prop} {n : Nat} {A C : World} (hn : A.heap.size ≤ n) (h : Below n A C) : ItStep c A C := ⟨h.size, fun k hk _ => h.block k (by omega), Out3.of_below h⟩
theorem ItStep.roll {c : Nat → Prop} {A C : World} (h : ItStep c A C) (D : Nat) : Roll D c A C :=
  ⟨h.1, fun k o ho hc _ => (h.2.1 k (Array.getElem?_eq_some_iff.1 ho).1 hc).trans ho, h.2.2⟩
theorem Roll.refl (D : Nat) (c : Nat → Prop) (A : World) : Roll D c A A := ⟨Nat.le_refl _, fun _ _ h _ _ => h, rfl, rfl, rfl⟩
theorem Roll.putObj {D : Nat} {c : Nat → Prop} {A : World} {l : Nat} {o : Obj} (o' : Obj) (hl : D ≤ l) (h : A.heap[l]? = some o) (ho : o.isCells = false) : Roll D c A (A.putObj l o') := by
  refine ⟨(grownBy_putObj' A l o').size, fun k u hk _ hd => ?_, rfl, rfl, rfl⟩
  have hne : k ≠ l := fun e => by
    subst e; rw [h] at hk; cases hk
    rcases hd with hd | hd
    · omega
    · rw [ho] at hd; cases hd
  exact (World.putObj_heap_other hne).trans hk
theorem Roll.alloc {D : Nat} {c : Nat → Prop} (A : World) (o : Obj) : Roll D c A (A.alloc o) :=
  (ItStep.of_below (Nat.le_refl _) ((Below.refl _ _).alloc (Nat.le_refl _) _)).roll D
/-- What lay below D lies as it lay. -/
theorem Roll.below {D B : Nat} {c : Nat → Prop} {A C E : World} (h : Roll D c A C) (hc : ∀ k, c k → D ≤ k) (hB : B ≤ D) (hE : Below B E A) (hs : B ≤ E.heap.size) : Below B E C :=
  ⟨h.2.2.1.trans hE.os, h.2.2.2.1.trans hE.tape, h.2.2.2.2.trans hE.output, Nat.le_trans hE.size h.1, fun k hk => by
    have h1 := hE.block k hk
    cases ho : A.heap[k]? with
    | none =>
      have := hE.size
      rw [Array.getElem?_eq_none_iff] at ho; omega
    | some o =>
      rw [← h1, ho]
      exact h.2.1 k o ho (fun e => by have := hc k e; omega) (.inl (by omega))⟩
theorem Roll.cell {D : Nat} {c : Nat → Prop} {A C : World} (h : Roll D c A C) {p : Addr} {v : Value} (hc : ¬ c p.block) (hv : A.cell? p = some v) : C.cell? p = some v := by
  cases ho : A.heap[p.block]? with
  | none => rw [World.cell?, ho] at hv; cases hv
  | some o =>
    have hcl : o.isCells = true := by
      cases o with
      | cells cs e f => rfl
      | _ => rw [World.cell?, ho] at hv; cases hv
    exact (World.cell?_of_block ((h.2.1 _ _ ho hc (.inr hcl)).trans ho.symm)).trans hv
theorem Roll.frozen {D : Nat} {c : Nat → Prop} {A C : World} (h : Roll D c A C) {p : Addr} {v : Value} {b : Bool} (hc : ¬ c p.block) (hv : A.cell? p = some v) (hf : A.frozen? p = b) : C.frozen? p = b := by
  cases ho : A.heap[p.block]? with
  | none => rw [World.cell?, ho] at hv; cases hv
  | some o =>
    have hcl : o.isCells = true := by
      cases o with
      | cells cs e f => rfl
      | _ => rw [World.cell?, ho] at hv; cases hv
    exact (World.frozen?_of_block ((h.2.1 _ _ ho hc (.inr hcl)).trans ho.symm)).trans hf
theorem KeepB.refl (c : Nat → Prop) (A : World) : KeepB c A A := ⟨Nat.le_refl _, fun _ _ _ h => h⟩
theorem KeepB.trans {c : Nat → Prop} {A C E : World} (h : KeepB c A C) (k : KeepB c C E) : KeepB c A E := ⟨Nat.le_trans h.1 k.1, fun i o hc ho => k.2 i o hc (h.2 i o hc ho)⟩
theorem KeepB.putObj {c : Nat → Prop} {A : World} {l : Nat} (o' : Obj) (hl : ¬ c l) : KeepB c A (A.putObj l o') := ⟨(grownBy_putObj' A l o').size, fun k o hc ho =>
  (World.putObj_heap_other (fun e => hl (by first | (rw [← e]; exact hc) | (rw [e]; exact hc)))).trans ho⟩
theorem KeepB.of_below {c : Nat → Prop} {n : Nat} {A C : World} (h : Below n A C) (hn : A.heap.size ≤ n) : KeepB c A C := ⟨h.size, fun k _ _ ho => (h.block k (by have := (Array.getElem?_eq_some_iff.1 ho).1; omega)).trans ho⟩
theorem KeepB.setCell {c : Nat → Prop} {E A : World} (h : KeepB c E A) {a : Addr} (v : Value) (ha : ¬ c a.block) : KeepB c E (A.setCell a v) :=
  ⟨by rw [World.size_setCell]; exact h.1, fun k o hc ho => by
    rw [heap_setCell_ne (fun e => ha (by rw [← e]; exact hc))]; exact h.2 k o hc ho⟩
theorem KeepB.only {c S : Nat → Prop} {E A C : World} (h : KeepB c E A) (k : Only S A C) (hs : ∀ i, S i → ¬ c i) : KeepB c E C :=
  ⟨Nat.le_trans h.1 k.size, fun i o hc ho => (k.block i (Array.getElem?_eq_some_iff.1 (h.2 i o hc ho)).1 (fun e => hs i e hc)).trans (h.2 i o hc ho)⟩
theorem KeepB.at {c : Nat → Prop} {A C : World} (h : KeepB c A C) {k : Nat} (hc : c k) (hk : k < A.heap.size) : C.heap[k]? = A.heap[k]? := by
  rw [Array.getElem?_eq_getElem hk]; exact h.2 k _ hc (Array.getElem?_eq_getElem hk)
theorem KeepB.cell {c : Nat → Prop} {A C : World} (h : KeepB c A C) {p : Addr} {v : Value} (hc : c p.block) (hv : A.cell? p = some v) : C.cell? p = some v :=
  (World.cell?_of_block (h.at hc (World.block_lt_of_cell? _ _ hv))).trans hv
theorem KeepB.frozen {c : Nat → Prop} {A C : World} (h : KeepB c A C) {p : Addr} {v : Value} {b : Bool} (hc : c p.block) (hv : A.cell? p = some v) (hf : A.frozen? p = b) : C.frozen? p = b :=
  (World.frozen?_of_block (h.at hc (World.block_lt_of_cell? _ _ hv))).trans hf

/-- What lies behind the iterator's call. -/
def ItDone {α : Type} (S Sp : List α → Prop) (J Jx : (Nat → Prop) → List α → World → Prop) (W : World) : Ending → World → Prop := fun e W' =>
  (∃ v, e = .returned v) ∧ ((∃ c xs, (∀ k, c k → W.heap.size ≤ k) ∧ S xs ∧ J c xs W') ∨ (∃ c pre, (∀ k, c k → W.heap.size ≤ k) ∧ Sp pre ∧ Jx c pre W'))
/-- The contract of an iterator that keeps state of its own in blocks c (from its call's heap on) and reads between two rounds the blocks r, too. -/
def SeqOwn {α : Type} (F : Fence) (n : Nat) (P : Program) (g : Nat) (lb : Array Value) (encs : α → Array Value) (r : Nat → Prop) (Giv : (Nat → Prop) → List α → α → World → Prop) (S Sp : List α → Prop) (N : Nat) (W : World) : Prop :=
  ∀ (l : Nat) (J Jx : (Nat → Prop) → List α → World → Prop),
    (∀ c pre A C, (∀ k, c k → W.heap.size ≤ k) → J c pre A → ItStep c A C → J c pre C) →
    (∀ c pre A C, (∀ k, c k → W.heap.size ≤ k) → Jx c pre A → ItStep c A C → Jx c pre C) →
    (∀ c pre x W1, (∀ k, c k → W.heap.size ≤ k) → J c pre W1 → Giv c pre x W1 → pre.length < N → YieldAt F (n - 1) P l (encs x) W1 fun e W' =>
      (e = .returned (.bool true) ∧ J c (pre ++ [x]) W' ∧ KeepB (fun k => c k ∨ r k) W1 W') ∨ (e = .returned (.bool false) ∧ Jx c (pre ++ [x]) W')) →
    (∀ c, (∀ k, c k → W.heap.size ≤ k) → J c [] W) →
    CallsIn F n P g (#[.func (.yield l) #[] #[]] ++ lb) W (ItDone S Sp J Jx W)

variable {F : Fence} {n : Nat} {P : Program}

/-- A contract from a body that holds a range over a function. -/
theorem calls_of_marks {f : FuncId} {fn : Func} {c : Code} {args : Array Value} {w : World} {R : Ending → World → Prop}
    (hf : P.funcs[f]? = some fn) (hb : fn.body = some c)
    (h : c.wp P (bodyPostM Fence.wide 3 P fn R) { tmps := args ++ Array.replicate (fn.ntmps - args.size) undef, defers := [] } w) : Calls P f args w R :=
  (callsIn_wide (n := 3)).1 (callsIn_of_wp_marks hf hb trivial (wpIn_wide.2 h) rfl)

theorem wpIn_rangeFunc_roll {α : Type} {g : Operand} {ps : Array Tmp} {assign body : Code} {Q : Exit → Act → World → Prop} {a : Act} {w : World}
    (hro : F.round = none) (h1 : 1 ≤ n) {gf : Nat} {lb : Array Value} (hg : a.eval g = .func (.func gf) #[] lb) (hFg : F.fn gf) (eg : ∀ args w, (callFunc gf args).run P w = .ok (.enter gf args) w)
    {encs : α → Array Value} {r : Nat → Prop} {Giv : (Nat → Prop) → List α → α → World → Prop} {S Sp : List α → Prop} {N : Nat}
    (hseq : ∀ W, Below w.heap.size w W → SeqOwn F (n - 1) P gf lb encs r Giv S Sp N W)
    (hr : ∀ k, r k → k < w.heap.size) (hps : ∀ x, (encs x).size = ps.size)
    (hGiv : ∀ c pre x W l o o', w.heap.size ≤ l → W.heap[l]? = some o → o.isCells = false → Giv c pre x W → Giv c pre x (W.putObj l o'))
    (I : (Nat → Prop) → List α → World → Prop) (Ix : (Nat → Prop) → Code → List α → World → Prop)
    (hI : ∀ c pre A C, (∀ k, c k → w.heap.size ≤ k) → I c pre A → Roll w.heap.size c A C → I c pre C)
    (hIx : ∀ c j pre A C, (∀ k, c k → w.heap.size ≤ k) → Ix c j pre A → Roll w.heap.size c A C → Ix c j pre C)
    (h0 : ∀ c, (∀ k, c k → w.heap.size ≤ k) → I c [] w) (a₁ : α → Act)
    (hassign : ∀ (l : Nat) (x : α) (W : World) (K : Act → World → Prop), K (a₁ x) W →
      assign.wpIn (F.inRound l) (n - 1 - 1) P (Exit.then K (fun _ _ _ => False)) { tmps := (ps.zip (encs x)).foldl (fun t (p, v) => t.setIfInBounds p v) a.tmps, defers := [] } W)
    (hbody : ∀ (l : Nat) (c : Nat → Prop) (pre : List α) (x : α) (W : World), (∀ k, c k → w.heap.size ≤ k) → I c pre W → Giv c pre x W → pre.length < N →
      body.wpIn (F.inRound l) (n - 1 - 1) P (ownPostG w.heap.size (KeepB (fun k => c k ∨ r k)) (I c) (Ix c) (pre ++ [x]) W) (a₁ x) W)
    (hdone : ∀ (D : Nat) (c : Nat → Prop) (xs : List α) (W : World), w.heap.size ≤ D → (∀ k, c k → w.heap.size ≤ k) → S xs → I c xs W → W.heap[D]? = some (.deferred (some [])) → Q .normal { a with defers := { target := .collected D, args := #[] } :: a.defers } W)
    (hstop : ∀ (D : Nat) (c : Nat → Prop) (j : Code) (pre : List α) (W : World), w.heap.size ≤ D → (∀ k, c k → w.heap.size ≤ k) → Sp pre → Ix c j pre W → W.heap[D]? = some (.deferred (some [])) → j.wpIn F n P Q { a with defers := { target := .collected D, args := #[] } :: a.defers } W) :
    (Code.rangeFunc g ps assign body).wpIn F n P Q a w := by
  refine wpIn_rangeFunc ?_
  intro fn hfn
  rw [hro]
  obtain ⟨rec, hrec⟩ : ∃ rec : LoopState → Option Code → Loop, rec = fun st pe => { state := st, pending := pe, fn, tmps := a.tmps, params := ps, assign, body, defers := w.heap.size } := ⟨_, rfl⟩
  obtain ⟨W1, hW1⟩ : ∃ W1, (w.alloc (.deferred (some []))).alloc (.loop (rec .ready none)) = W1 := ⟨_, rfl⟩
  have hL1 : W1.heap[w.heap.size + 1]? = some (.loop (rec .ready none)) := by
    rw [← hW1]; have := World.alloc_heap_new (w.alloc (.deferred (some []))) (.loop (rec .ready none)); rwa [World.size_alloc] at this
  have hK1 : W1.heap[w.heap.size]? = some (.deferred (some [])) := by
    rw [← hW1]; exact (Below.heap_alloc _ _ _ (by simp)).trans (World.alloc_heap_new w _)
  have hS1 : W1.heap.size = w.heap.size + 2 := by rw [← hW1]; simp
  have hI1 : ∀ c, (∀ k, c k → w.heap.size ≤ k) → I c [] W1 := fun c hc => by
    rw [← hW1]; exact hI c [] _ _ hc (hI c [] _ _ hc (h0 c hc) (Roll.alloc _ _)) (Roll.alloc _ _)
  have hb1 : Below w.heap.size w W1 := by
    rw [← hW1]; exact ((Below.refl _ w).alloc (Nat.le_refl _) _).alloc (by simp) _
  refine ⟨w.heap.size + 1, [{ target := .collected w.heap.size, args := #[] }], W1, { target := .fn (.func gf) lb, args := #[.func (.yield (w.heap.size + 1)) #[] #[]] }, W1, gf,
    #[.func (.yield (w.heap.size + 1)) #[] #[]] ++ lb, W1, ?_, ?_, ?_, ?_, fun _ => h1, ?_⟩
  · rw [← hW1, hrec]; exact run_enterLoop_outer _ _ _ _ _
  · simp only [resolve, hg]
    simp [go_sem]
  · intro f' hf'; simp [Target.leads] at hf'; subst hf'; exact hFg
  · simp [invoke, go_sem, eg]
  · have hup : ∀ {c : Nat → Prop}, (∀ k, c k → W1.heap.size ≤ k) → ∀ k, c k → w.heap.size ≤ k := fun h k hk => by have := h k hk; omega
    have hrl : ∀ {c : Nat → Prop} {A C : World}, (∀ k, c k → W1.heap.size ≤ k) → ItStep c A C → ∀ {l : Nat} {o : Obj}, l < W1.heap.size → A.heap[l]? = some o → C.heap[l]? = some o := fun hc h l o hl ho =>
      (h.2.1 l (Array.getElem?_eq_some_iff.1 ho).1 (fun e => by have := hc l e; omega)).trans ho
    refine (hseq W1 hb1 (w.heap.size + 1)
      (fun c pre W => I c pre W ∧ W.heap[w.heap.size + 1]? = some (.loop (rec .ready none)) ∧ W.heap[w.heap.size]? = some (.deferred (some [])))
      (fun c pre W => ∃ j, Ix c j pre W ∧ W.heap[w.heap.size + 1]? = some (.loop (rec .done (some j))) ∧ W.heap[w.heap.size]? = some (.deferred (some [])))
      (fun c pre A C hc hs hg => ⟨hI c pre A C (hup hc) hs.1 (hg.roll _), hrl hc hg (by omega) hs.2.1, hrl hc hg (by omega) hs.2.2⟩)
      (fun c pre A C hc hs hg => by
        obtain ⟨j, hj, hl, hk⟩ := hs
        exact ⟨j, hIx c j pre A C (hup hc) hj (hg.roll _), hrl hc hg (by omega) hl, hrl hc hg (by omega) hk⟩)
      ?_ (fun c hc => ⟨hI1 c (hup hc), hL1, hK1⟩)).mono ?_
    · -- one round
      rintro c pre x W hc ⟨hi, hl, hk⟩ hgv hlen
      have hcu := hup hc
      have hlt : w.heap.size + 1 < W.heap.size := (Array.getElem?_eq_some_iff.1 hl).1
      have hnc : ¬ (c (w.heap.size + 1) ∨ r (w.heap.size + 1)) := fun e => by
        rcases e with e | e
        · have := hc _ e; omega
        · have := hr _ e; omega
      have hy := run_yield (P := P) (args := encs x) hl (by rw [hrec]; exact hps x)
      rw [hrec] at hy
      refine ⟨fn, _, assign, body, hy, roundIn_of_wpIn hfn (hassign _ x W _ ⟨_, run_beginRound hl (by rw [hrec]), ?_⟩)⟩
      have hl2 : (W.putObj (w.heap.size + 1) (.loop { rec .ready none with state := .busy })).heap[w.heap.size + 1]? = some (.loop { rec .ready none with state := .busy }) := World.putObj_heap_same hlt
      have hk2 : (W.putObj (w.heap.size + 1) (.loop { rec .ready none with state := .busy })).heap[w.heap.size]? = some (.deferred (some [])) := (World.putObj_heap_other (by omega)).trans hk
      have hw2 : KeepB (fun k => c k ∨ r k) W (W.putObj (w.heap.size + 1) (.loop { rec .ready none with state := .busy })) := KeepB.putObj _ hnc
      have hIp : ∀ {xs : List α} {A : World} {o : Obj} (o' : Obj), I c xs A → A.heap[w.heap.size + 1]? = some o → o.isCells = false → I c xs (A.putObj (w.heap.size + 1) o') := fun o' hi ho hcell =>
        hI c _ _ _ hcu hi (Roll.putObj o' (by omega) ho hcell)
      have hIxp : ∀ {j : Code} {xs : List α} {A : World} {o : Obj} (o' : Obj), Ix c j xs A → A.heap[w.heap.size + 1]? = some o → o.isCells = false → Ix c j xs (A.putObj (w.heap.size + 1) o') := fun o' hi ho hcell =>
        hIx c _ _ _ _ hcu hi (Roll.putObj o' (by omega) ho hcell)
      refine wpIn_mono (hbody _ c pre x _ hcu (hIp _ hi hl rfl) (hGiv c pre x W _ _ _ (by omega) hl rfl hgv) hlen) ?_
      have fin : ∀ (jump : Option Code) (W3 : World), KeepsFrom w.heap.size (W.putObj (w.heap.size + 1) (.loop { rec .ready none with state := .busy })) W3 →
          (Instr.endRound (w.heap.size + 1) jump).run P W3 = .ok (.bool jump.isNone) (W3.putObj (w.heap.size + 1) (.loop (rec (if jump.isNone then .ready else .done) jump))) ∧
          W3.heap[w.heap.size + 1]? = some (.loop { rec .ready none with state := .busy }) ∧
          (W3.putObj (w.heap.size + 1) (.loop (rec (if jump.isNone then .ready else .done) jump))).heap[w.heap.size + 1]? = some (.loop (rec (if jump.isNone then .ready else .done) jump)) ∧
          (W3.putObj (w.heap.size + 1) (.loop (rec (if jump.isNone then .ready else .done) jump))).heap[w.heap.size]? = some (.deferred (some [])) := fun jump W3 hk3 => by
        have hl3 := hk3.same _ _ (by omega) hl2 rfl
        have := run_endRound (P := P) jump hl3
        rw [hrec] at this ⊢
        exact ⟨this, by rw [hrec] at hl3; exact hl3, World.putObj_heap_same (Array.getElem?_eq_some_iff.1 hl3).1, (World.putObj_heap_other (by omega)).trans (hk3.same _ _ (Nat.le_refl _) hk2 rfl)⟩
      rintro e a3 W3 hp
      cases e with
      | normal =>
        obtain ⟨hk3, hkp3, hi3⟩ := hp
        obtain ⟨hr, hl3, hl4, hk4⟩ := fin none W3 hk3
        exact ⟨_, _, hr, .inl ⟨rfl, ⟨hIp _ hi3 hl3 rfl, hl4, hk4⟩, (hw2.trans hkp3).trans (KeepB.putObj _ hnc)⟩⟩
      | ret =>
        obtain ⟨hk3, hi3⟩ := hp
        obtain ⟨hr, hl3, hl4, hk4⟩ := fin (some .ret) W3 hk3
        exact ⟨_, _, hr, .inr ⟨rfl, .ret, hIxp _ hi3 hl3 rfl, hl4, hk4⟩⟩
      | exit id =>
        obtain ⟨hk3, hi3⟩ := hp
        obtain ⟨hr, hl3, hl4, hk4⟩ := fin (some (.exit id)) W3 hk3
        exact ⟨_, _, hr, .inr ⟨rfl, .exit id, hIxp _ hi3 hl3 rfl, hl4, hk4⟩⟩
      | goto t =>
        obtain ⟨hk3, hi3⟩ := hp
        obtain ⟨hr, hl3, hl4, hk4⟩ := fin (some (.goto t)) W3 hk3
        exact ⟨_, _, hr, .inr ⟨rfl, .goto t, hIxp _ hi3 hl3 rfl, hl4, hk4⟩⟩
      | panic ch => exact hp.elim
      | outgrown => exact hp.elim
    · -- behind the iterator
      rintro e W2 ⟨⟨v, rfl⟩, (⟨c, xs, hc, hS, hi, hl, hk⟩ | ⟨c, pre, hc, hSp, j, hi, hl, hk⟩)⟩
      · exact ⟨none, _, by have := run_endLoop (P := P) hl (by rw [hrec]; simp); rw [hrec] at this; exact this, hdone _ c xs _ (Nat.le_refl _) (hup hc) hS (hI c _ _ _ (hup hc) hi (Roll.putObj _ (by omega) hl rfl)) ((World.putObj_heap_other (by omega)).trans hk)⟩
      · exact ⟨some j, _, by have := run_endLoop (P := P) hl (by rw [hrec]; simp); rw [hrec] at this; exact this, hstop _ c j pre _ (Nat.le_refl _) (hup hc) hSp (hIx c _ _ _ _ (hup hc) hi (Roll.putObj _ (by omega) hl rfl)) ((World.putObj_heap_other (by omega)).trans hk)⟩
/-- The law for one loop variable that no code assigns or boxes. -/
theorem wp_rangeFunc_roll1 {α : Type} {g : Operand} {p : Tmp} {body : Code} {Q : Exit → Act → World → Prop} {a : Act} {w : World}
    {gf : Nat} {lb : Array Value} (hg : a.eval g = .func (.func gf) #[] lb) (eg : ∀ args w, (callFunc gf args).run P w = .ok (.enter gf args) w)
    {enc : α → Value} {r : Nat → Prop} {Giv : (Nat → Prop) → List α → α → World → Prop} {S Sp : List α → Prop} {N : Nat}
    (hseq : ∀ W, Below w.heap.size w W → SeqOwn Fence.wide 2 P gf lb (fun x => #[enc x]) r Giv S Sp N W)
    (hr : ∀ k, r k → k < w.heap.size)
    (hGiv : ∀ c pre x W l o o', w.heap.size ≤ l → W.heap[l]? = some o → o.isCells = false → Giv c pre x W → Giv c pre x (W.putObj l o'))
    (I : (Nat → Prop) → List α → World → Prop) (Ix : (Nat → Prop) → Code → List α → World → Prop)
    (hI : ∀ c pre A C, (∀ k, c k → w.heap.size ≤ k) → I c pre A → Roll w.heap.size c A C → I c pre C)
    (hIx : ∀ c j pre A C, (∀ k, c k → w.heap.size ≤ k) → Ix c j pre A → Roll w.heap.size c A C → Ix c j pre C)
    (h0 : ∀ c, (∀ k, c k → w.heap.size ≤ k) → I c [] w)
    (hbody : ∀ (l : Nat) (c : Nat → Prop) (pre : List α) (x : α) (W : World), (∀ k, c k → w.heap.size ≤ k) → I c pre W → Giv c pre x W → pre.length < N →
      body.wpIn (Fence.wide.inRound l) 1 P (ownPostG w.heap.size (KeepB (fun k => c k ∨ r k)) (I c) (Ix c) (pre ++ [x]) W) { tmps := a.tmps.setIfInBounds p (enc x), defers := [] } W)
    (hdone : ∀ (D : Nat) (c : Nat → Prop) (xs : List α) (W : World), w.heap.size ≤ D → (∀ k, c k → w.heap.size ≤ k) → S xs → I c xs W → W.heap[D]? = some (.deferred (some [])) → Q .normal { a with defers := { target := .collected D, args := #[] } :: a.defers } W)
    (hstop : ∀ (D : Nat) (c : Nat → Prop) (j : Code) (pre : List α) (W : World), w.heap.size ≤ D → (∀ k, c k → w.heap.size ≤ k) → Sp pre → Ix c j pre W → W.heap[D]? = some (.deferred (some [])) → j.wp P Q { a with defers := { target := .collected D, args := #[] } :: a.defers } W) :
    (Code.rangeFunc g #[p] Code.skip body).wp P Q a w :=
  (wpIn_wide (n := 3)).1 (wpIn_rangeFunc_roll (F := Fence.wide) (n := 3) (ps := #[p]) rfl (by omega) hg trivial eg hseq hr (fun _ => rfl) hGiv I Ix hI hIx h0 (fun x => { tmps := a.tmps.setIfInBounds p (enc x), defers := [] })
    (fun _ _ _ _ hK => wpIn_skip (by simpa [Exit.then] using hK)) hbody hdone (fun D c j pre W h1 h2 h3 h4 h5 => wpIn_wide.2 (hstop D c j pre W h1 h2 h3 h4 h5)))
/-- The law for one loop variable that some code assigns. -/
theorem wp_rangeFunc_roll2 {α : Type} {g : Operand} {p q : Tmp} {assign body : Code} {Q : Exit → Act → World → Prop} {a : Act} {w : World}
    {gf : Nat} {lb : Array Value} (hg : a.eval g = .func (.func gf) #[] lb) (eg : ∀ args w, (callFunc gf args).run P w = .ok (.enter gf args) w)
    {enc : α → Value} {r : Nat → Prop} {Giv : (Nat → Prop) → List α → α → World → Prop} {S Sp : List α → Prop} {N : Nat}
    (hseq : ∀ W, Below w.heap.size w W → SeqOwn Fence.wide 2 P gf lb (fun x => #[enc x]) r Giv S Sp N W)
    (hr : ∀ k, r k → k < w.heap.size)
    (hGiv : ∀ c pre x W l o o', w.heap.size ≤ l → W.heap[l]? = some o → o.isCells = false → Giv c pre x W → Giv c pre x (W.putObj l o'))
    (I : (Nat → Prop) → List α → World → Prop) (Ix : (Nat → Prop) → Code → List α → World → Prop)
    (hI : ∀ c pre A C, (∀ k, c k → w.heap.size ≤ k) → I c pre A → Roll w.heap.size c A C → I c pre C)
    (hIx : ∀ c j pre A C, (∀ k, c k → w.heap.size ≤ k) → Ix c j pre A → Roll w.heap.size c A C → Ix c j pre C)
    (h0 : ∀ c, (∀ k, c k → w.heap.size ≤ k) → I c [] w)
    (hassign : ∀ (l : Nat) (x : α) (W : World) (K : Act → World → Prop), K { tmps := (a.tmps.setIfInBounds p (enc x)).setIfInBounds q (enc x), defers := [] } W →
      assign.wpIn (Fence.wide.inRound l) 1 P (Exit.then K (fun _ _ _ => False)) { tmps := a.tmps.setIfInBounds p (enc x), defers := [] } W)
    (hbody : ∀ (l : Nat) (c : Nat → Prop) (pre : List α) (x : α) (W : World), (∀ k, c k → w.heap.size ≤ k) → I c pre W → Giv c pre x W → pre.length < N →
      body.wpIn (Fence.wide.inRound l) 1 P (ownPostG w.heap.size (KeepB (fun k => c k ∨ r k)) (I c) (Ix c) (pre ++ [x]) W) { tmps := (a.tmps.setIfInBounds p (enc x)).setIfInBounds q (enc x), defers := [] } W)
    (hdone : ∀ (D : Nat) (c : Nat → Prop) (xs : List α) (W : World), w.heap.size ≤ D → (∀ k, c k → w.heap.size ≤ k) → S xs → I c xs W → W.heap[D]? = some (.deferred (some [])) → Q .normal { a with defers := { target := .collected D, args := #[] } :: a.defers } W)
    (hstop : ∀ (D : Nat) (c : Nat → Prop) (j : Code) (pre : List α) (W : World), w.heap.size ≤ D → (∀ k, c k → w.heap.size ≤ k) → Sp pre → Ix c j pre W → W.heap[D]? = some (.deferred (some [])) → j.wp P Q { a with defers := { target := .collected D, args := #[] } :: a.defers } W) :
    (Code.rangeFunc g #[p] assign body).wp P Q a w :=
  (wpIn_wide (n := 3)).1 (wpIn_rangeFunc_roll (F := Fence.wide) (n := 3) (ps := #[p]) rfl (by omega) hg trivial eg hseq hr (fun _ => rfl) hGiv I Ix hI hIx h0 (fun x => { tmps := (a.tmps.setIfInBounds p (enc x)).setIfInBounds q (enc x), defers := [] })
    (fun l x W K hK => by simpa using hassign l x W K hK) hbody hdone (fun D c j pre W h1 h2 h3 h4 h5 => wpIn_wide.2 (hstop D c j pre W h1 h2 h3 h4 h5)))
theorem own_putObj {A : World} {B : Nat} {e : TypeId} {size : Nat} {v : Value} {n : Nat} {xs : List Value} {l : Nat} {o : Obj} (o' : Obj) (h : A.ownsRow B e size v n xs) (hl : A.heap[l]? = some o) (ho : o.isCells = false) : (A.putObj l o').ownsRow B e size v n xs :=
  ownsRow_putObj h _ hl ho
end Go.Proofs.Ytjmdibgncaljaaa

/-! A range over an iterator with cells of its own whose loop variable is boxed. -/
namespace Go.Proofs.Ytjmdibgncaljaaa
open Go.RowKit
variable {F : Fence} {n : Nat} {P : Program}
theorem wpIn_rangeFunc_rollB {α : Type} {g : Operand} {ps : Array Tmp} {assign body : Code} {Q : Exit → Act → World → Prop} {a : Act} {w : World}
    (hro : F.round = none) (h1 : 1 ≤ n) {gf : Nat} {lb : Array Value} (hg : a.eval g = .func (.func gf) #[] lb) (hFg : F.fn gf) (eg : ∀ args w, (callFunc gf args).run P w = .ok (.enter gf args) w)
    {encs : α → Array Value} {r : Nat → Prop} {Giv : (Nat → Prop) → List α → α → World → Prop} {S Sp : List α → Prop} {N : Nat}
    (hseq : ∀ W, Below w.heap.size w W → SeqOwn F (n - 1) P gf lb encs r Giv S Sp N W)
    (hr : ∀ k, r k → k < w.heap.size) (hps : ∀ x, (encs x).size = ps.size)
    (hGiv : ∀ c pre x W l o o', w.heap.size ≤ l → W.heap[l]? = some o → o.isCells = false → Giv c pre x W → Giv c pre x (W.putObj l o'))
    (I : (Nat → Prop) → List α → World → Prop) (Ix : (Nat → Prop) → Code → List α → World → Prop)
    (hI : ∀ c pre A C, (∀ k, c k → w.heap.size ≤ k) → I c pre A → Roll w.heap.size c A C → I c pre C)
    (hIx : ∀ c j pre A C, (∀ k, c k → w.heap.size ≤ k) → Ix c j pre A → Roll w.heap.size c A C → Ix c j pre C)
    (h0 : ∀ c, (∀ k, c k → w.heap.size ≤ k) → I c [] w) (a₁ : α → Nat → Act) (cl : α → List Value) (T : TypeId)
    (hGivA : ∀ c pre x W o, Giv c pre x W → Giv c pre x (W.alloc o))
    (hassign : ∀ (l : Nat) (x : α) (W : World) (K : Act → World → Prop), K (a₁ x W.heap.size) (W.alloc (.cells (cl x).toArray T)) →
      assign.wpIn (F.inRound l) (n - 1 - 1) P (Exit.then K (fun _ _ _ => False)) { tmps := (ps.zip (encs x)).foldl (fun t (p, v) => t.setIfInBounds p v) a.tmps, defers := [] } W)
    (hbody : ∀ (l : Nat) (c : Nat → Prop) (pre : List α) (x : α) (b : Nat) (W : World), (∀ k, c k → w.heap.size ≤ k) → w.heap.size ≤ b → Has W b (cl x) T → I c pre W → Giv c pre x W → pre.length < N →
      body.wpIn (F.inRound l) (n - 1 - 1) P (ownPostG w.heap.size (KeepB (fun k => c k ∨ r k)) (I c) (Ix c) (pre ++ [x]) W) (a₁ x b) W)
    (hdone : ∀ (D : Nat) (c : Nat → Prop) (xs : List α) (W : World), w.heap.size ≤ D → (∀ k, c k → w.heap.size ≤ k) → S xs → I c xs W → W.heap[D]? = some (.deferred (some [])) → Q .normal { a with defers := { target := .collected D, args := #[] } :: a.defers } W)
    (hstop : ∀ (D : Nat) (c : Nat → Prop) (j : Code) (pre : List α) (W : World), w.heap.size ≤ D → (∀ k, c k → w.heap.size ≤ k) → Sp pre → Ix c j pre W → W.heap[D]? = some (.deferred (some [])) → j.wpIn F n P Q { a with defers := { target := .collected D, args := #[] } :: a.defers } W) :
    (Code.rangeFunc g ps assign body).wpIn F n P Q a w := by
  refine wpIn_rangeFunc ?_
  intro fn hfn
  rw [hro]
  obtain ⟨rec, hrec⟩ : ∃ rec : LoopState → Option Code → Loop, rec = fun st pe => { state := st, pending := pe, fn, tmps := a.tmps, params := ps, assign, body, defers := w.heap.size } := ⟨_, rfl⟩
  obtain ⟨W1, hW1⟩ : ∃ W1, (w.alloc (.deferred (some []))).alloc (.loop (rec .ready none)) = W1 := ⟨_, rfl⟩
  have hL1 : W1.heap[w.heap.size + 1]? = some (.loop (rec .ready none)) := by
    rw [← hW1]; have := World.alloc_heap_new (w.alloc (.deferred (some []))) (.loop (rec .ready none)); rwa [World.size_alloc] at this
  have hK1 : W1.heap[w.heap.size]? = some (.deferred (some [])) := by
    rw [← hW1]; exact (Below.heap_alloc _ _ _ (by simp)).trans (World.alloc_heap_new w _)
  have hS1 : W1.heap.size = w.heap.size + 2 := by rw [← hW1]; simp
  have hI1 : ∀ c, (∀ k, c k → w.heap.size ≤ k) → I c [] W1 := fun c hc => by
    rw [← hW1]; exact hI c [] _ _ hc (hI c [] _ _ hc (h0 c hc) (Roll.alloc _ _)) (Roll.alloc _ _)
  have hb1 : Below w.heap.size w W1 := by
    rw [← hW1]; exact ((Below.refl _ w).alloc (Nat.le_refl _) _).alloc (by simp) _
  refine ⟨w.heap.size + 1, [{ target := .collected w.heap.size, args := #[] }], W1, { target := .fn (.func gf) lb, args := #[.func (.yield (w.heap.size + 1)) #[] #[]] }, W1, gf,
    #[.func (.yield (w.heap.size + 1)) #[] #[]] ++ lb, W1, ?_, ?_, ?_, ?_, fun _ => h1, ?_⟩
  · rw [← hW1, hrec]; exact run_enterLoop_outer _ _ _ _ _
  · simp only [resolve, hg]
    simp [go_sem]
  · intro f' hf'; simp [Target.leads] at hf'; subst hf'; exact hFg
  · simp [invoke, go_sem, eg]
  · have hup : ∀ {c : Nat → Prop}, (∀ k, c k → W1.heap.size ≤ k) → ∀ k, c k → w.heap.size ≤ k := fun h k hk => by have := h k hk; omega
    have hrl : ∀ {c : Nat → Prop} {A C : World}, (∀ k, c k → W1.heap.size ≤ k) → ItStep c A C → ∀ {l : Nat} {o : Obj}, l < W1.heap.size → A.heap[l]? = some o → C.heap[l]? = some o := fun hc h l o hl ho =>
      (h.2.1 l (Array.getElem?_eq_some_iff.1 ho).1 (fun e => by have := hc l e; omega)).trans ho
    refine (hseq W1 hb1 (w.heap.size + 1)
      (fun c pre W => I c pre W ∧ W.heap[w.heap.size + 1]? = some (.loop (rec .ready none)) ∧ W.heap[w.heap.size]? = some (.deferred (some [])))
      (fun c pre W => ∃ j, Ix c j pre W ∧ W.heap[w.heap.size + 1]? = some (.loop (rec .done (some j))) ∧ W.heap[w.heap.size]? = some (.deferred (some [])))
      (fun c pre A C hc hs hg => ⟨hI c pre A C (hup hc) hs.1 (hg.roll _), hrl hc hg (by omega) hs.2.1, hrl hc hg (by omega) hs.2.2⟩)
      (fun c pre A C hc hs hg => by
        obtain ⟨j, hj, hl, hk⟩ := hs
        exact ⟨j, hIx c j pre A C (hup hc) hj (hg.roll _), hrl hc hg (by omega) hl, hrl hc hg (by omega) hk⟩)
      ?_ (fun c hc => ⟨hI1 c (hup hc), hL1, hK1⟩)).mono ?_
    · -- one round
      rintro c pre x W hc ⟨hi, hl, hk⟩ hgv hlen
      have hcu := hup hc
      have hlt : w.heap.size + 1 < W.heap.size := (Array.getElem?_eq_some_iff.1 hl).1
      have hnc : ¬ (c (w.heap.size + 1) ∨ r (w.heap.size + 1)) := fun e => by
        rcases e with e | e
        · have := hc _ e; omega
        · have := hr _ e; omega
      have hy := run_yield (P := P) (args := encs x) hl (by rw [hrec]; exact hps x)
      rw [hrec] at hy
      have hbA : Below W.heap.size W (W.alloc (.cells (cl x).toArray T)) := (Below.refl _ _).alloc (Nat.le_refl _) _
      have hKA : KeepB (fun k => c k ∨ r k) W (W.alloc (.cells (cl x).toArray T)) := KeepB.of_below hbA (Nat.le_refl _)
      have hlA : (W.alloc (.cells (cl x).toArray T)).heap[w.heap.size + 1]? = some (.loop (rec .ready none)) := (hbA.block _ hlt).trans hl
      have hkA : (W.alloc (.cells (cl x).toArray T)).heap[w.heap.size]? = some (.deferred (some [])) := (hbA.block _ (by omega)).trans hk
      have hiA := hI c pre W _ hcu hi (Roll.alloc W (.cells (cl x).toArray T))
      have hgA := hGivA c pre x W (.cells (cl x).toArray T) hgv
      have hHA := Has.new W (cl x) T
      have hwb : w.heap.size ≤ W.heap.size := by omega
      refine ⟨fn, _, assign, body, hy, roundIn_of_wpIn hfn (hassign _ x W _ ⟨_, run_beginRound hlA (by rw [hrec]), ?_⟩)⟩
      have hltA : w.heap.size + 1 < (W.alloc (.cells (cl x).toArray T)).heap.size := by rw [World.size_alloc]; omega
      obtain ⟨b0, hb0⟩ : ∃ b0, b0 = W.heap.size := ⟨_, rfl⟩
      have hne : b0 ≠ w.heap.size + 1 := by omega
      rw [← hb0] at hHA hwb ⊢
      refine wpIn_mono (Q := ownPostG w.heap.size (KeepB (fun k => c k ∨ r k)) (I c) (Ix c) (pre ++ [x]) ((W.alloc (.cells (cl x).toArray T)).putObj (w.heap.size + 1) (.loop { rec .ready none with state := .busy }))) (hbody _ c pre x b0 _ hcu hwb ((World.putObj_heap_other hne).trans hHA) (hI c _ _ _ hcu hiA (Roll.putObj _ (by omega) hlA rfl)) (hGiv c pre x _ _ _ _ (by omega) hlA rfl hgA) hlen) ?_
      clear hHA hb0 hne
      clear hl hk hlt hi hgv
      generalize hWA : W.alloc (.cells (cl x).toArray T) = WA at *
      have hl2 : (WA.putObj (w.heap.size + 1) (.loop { rec .ready none with state := .busy })).heap[w.heap.size + 1]? = some (.loop { rec .ready none with state := .busy }) := World.putObj_heap_same hltA
      have hk2 : (WA.putObj (w.heap.size + 1) (.loop { rec .ready none with state := .busy })).heap[w.heap.size]? = some (.deferred (some [])) := (World.putObj_heap_other (by omega)).trans hkA
      have hw2 : KeepB (fun k => c k ∨ r k) W (WA.putObj (w.heap.size + 1) (.loop { rec .ready none with state := .busy })) := hKA.trans (KeepB.putObj _ hnc)
      have hIp : ∀ {xs : List α} {A : World} {o : Obj} (o' : Obj), I c xs A → A.heap[w.heap.size + 1]? = some o → o.isCells = false → I c xs (A.putObj (w.heap.size + 1) o') := fun o' hi ho hcell =>
        hI c _ _ _ hcu hi (Roll.putObj o' (by omega) ho hcell)
      have hIxp : ∀ {j : Code} {xs : List α} {A : World} {o : Obj} (o' : Obj), Ix c j xs A → A.heap[w.heap.size + 1]? = some o → o.isCells = false → Ix c j xs (A.putObj (w.heap.size + 1) o') := fun o' hi ho hcell =>
        hIx c _ _ _ _ hcu hi (Roll.putObj o' (by omega) ho hcell)
      have fin : ∀ (jump : Option Code) (W3 : World), KeepsFrom w.heap.size (WA.putObj (w.heap.size + 1) (.loop { rec .ready none with state := .busy })) W3 →
          (Instr.endRound (w.heap.size + 1) jump).run P W3 = .ok (.bool jump.isNone) (W3.putObj (w.heap.size + 1) (.loop (rec (if jump.isNone then .ready else .done) jump))) ∧
          W3.heap[w.heap.size + 1]? = some (.loop { rec .ready none with state := .busy }) ∧
          (W3.putObj (w.heap.size + 1) (.loop (rec (if jump.isNone then .ready else .done) jump))).heap[w.heap.size + 1]? = some (.loop (rec (if jump.isNone then .ready else .done) jump)) ∧
          (W3.putObj (w.heap.size + 1) (.loop (rec (if jump.isNone then .ready else .done) jump))).heap[w.heap.size]? = some (.deferred (some [])) := fun jump W3 hk3 => by
        have hl3 := hk3.same _ _ (by omega) hl2 rfl
        have := run_endRound (P := P) jump hl3
        rw [hrec] at this ⊢
        exact ⟨this, by rw [hrec] at hl3; exact hl3, World.putObj_heap_same (Array.getElem?_eq_some_iff.1 hl3).1, (World.putObj_heap_other (by omega)).trans (hk3.same _ _ (Nat.le_refl _) hk2 rfl)⟩
      rintro e a3 W3 hp
      cases e with
      | normal =>
        obtain ⟨hk3, hkp3, hi3⟩ := hp
        obtain ⟨hr, hl3, hl4, hk4⟩ := fin none W3 hk3
        exact ⟨_, _, hr, .inl ⟨rfl, ⟨hIp _ hi3 hl3 rfl, hl4, hk4⟩, (hw2.trans hkp3).trans (KeepB.putObj _ hnc)⟩⟩
      | ret =>
        obtain ⟨hk3, hi3⟩ := hp
        obtain ⟨hr, hl3, hl4, hk4⟩ := fin (some .ret) W3 hk3
        exact ⟨_, _, hr, .inr ⟨rfl, .ret, hIxp _ hi3 hl3 rfl, hl4, hk4⟩⟩
      | exit id =>
        obtain ⟨hk3, hi3⟩ := hp
        obtain ⟨hr, hl3, hl4, hk4⟩ := fin (some (.exit id)) W3 hk3
        exact ⟨_, _, hr, .inr ⟨rfl, .exit id, hIxp _ hi3 hl3 rfl, hl4, hk4⟩⟩
      | goto t =>
        obtain ⟨hk3, hi3⟩ := hp
        obtain ⟨hr, hl3, hl4, hk4⟩ := fin (some (.goto t)) W3 hk3
        exact ⟨_, _, hr, .inr ⟨rfl, .goto t, hIxp _ hi3 hl3 rfl, hl4, hk4⟩⟩
      | panic ch => exact hp.elim
      | outgrown => exact hp.elim
    · -- behind the iterator
      rintro e W2 ⟨⟨v, rfl⟩, (⟨c, xs, hc, hS, hi, hl, hk⟩ | ⟨c, pre, hc, hSp, j, hi, hl, hk⟩)⟩
      · exact ⟨none, _, by have := run_endLoop (P := P) hl (by rw [hrec]; simp); rw [hrec] at this; exact this, hdone _ c xs _ (Nat.le_refl _) (hup hc) hS (hI c _ _ _ (hup hc) hi (Roll.putObj _ (by omega) hl rfl)) ((World.putObj_heap_other (by omega)).trans hk)⟩
      · exact ⟨some j, _, by have := run_endLoop (P := P) hl (by rw [hrec]; simp); rw [hrec] at this; exact this, hstop _ c j pre _ (Nat.le_refl _) (hup hc) hSp (hIx c _ _ _ _ (hup hc) hi (Roll.putObj _ (by omega) hl rfl)) ((World.putObj_heap_other (by omega)).trans hk)⟩
/-- In plain mode, for one loop variable that some code boxes. -/
theorem wp_rangeFunc_rollB {α : Type} {g : Operand} {p q : Tmp} {assign body : Code} {Q : Exit → Act → World → Prop} {a : Act} {w : World}
    {gf : Nat} {lb : Array Value} (hg : a.eval g = .func (.func gf) #[] lb) (eg : ∀ args w, (callFunc gf args).run P w = .ok (.enter gf args) w)
    {enc : α → Value} {r : Nat → Prop} {Giv : (Nat → Prop) → List α → α → World → Prop} {S Sp : List α → Prop} {N : Nat}
    (hseq : ∀ W, Below w.heap.size w W → SeqOwn Fence.wide 2 P gf lb (fun x => #[enc x]) r Giv S Sp N W)
    (hr : ∀ k, r k → k < w.heap.size)
    (hGiv : ∀ c pre x W l o o', w.heap.size ≤ l → W.heap[l]? = some o → o.isCells = false → Giv c pre x W → Giv c pre x (W.putObj l o'))
    (I : (Nat → Prop) → List α → World → Prop) (Ix : (Nat → Prop) → Code → List α → World → Prop)
    (hI : ∀ c pre A C, (∀ k, c k → w.heap.size ≤ k) → I c pre A → Roll w.heap.size c A C → I c pre C)
    (hIx : ∀ c j pre A C, (∀ k, c k → w.heap.size ≤ k) → Ix c j pre A → Roll w.heap.size c A C → Ix c j pre C)
    (h0 : ∀ c, (∀ k, c k → w.heap.size ≤ k) → I c [] w) (cl : α → List Value) (T : TypeId)
    (hGivA : ∀ c pre x W o, Giv c pre x W → Giv c pre x (W.alloc o))
    (hassign : ∀ (l : Nat) (x : α) (W : World) (K : Act → World → Prop), K { tmps := (a.tmps.setIfInBounds p (enc x)).setIfInBounds q (.pointer (some ⟨W.heap.size, 0, none⟩)), defers := [] } (W.alloc (.cells (cl x).toArray T)) →
      assign.wpIn (Fence.wide.inRound l) 1 P (Exit.then K (fun _ _ _ => False)) { tmps := a.tmps.setIfInBounds p (enc x), defers := [] } W)
    (hbody : ∀ (l : Nat) (c : Nat → Prop) (pre : List α) (x : α) (b : Nat) (W : World), (∀ k, c k → w.heap.size ≤ k) → w.heap.size ≤ b → Has W b (cl x) T → I c pre W → Giv c pre x W → pre.length < N →
      body.wpIn (Fence.wide.inRound l) 1 P (ownPostG w.heap.size (KeepB (fun k => c k ∨ r k)) (I c) (Ix c) (pre ++ [x]) W) { tmps := (a.tmps.setIfInBounds p (enc x)).setIfInBounds q (.pointer (some ⟨b, 0, none⟩)), defers := [] } W)
    (hdone : ∀ (D : Nat) (c : Nat → Prop) (xs : List α) (W : World), w.heap.size ≤ D → (∀ k, c k → w.heap.size ≤ k) → S xs → I c xs W → W.heap[D]? = some (.deferred (some [])) → Q .normal { a with defers := { target := .collected D, args := #[] } :: a.defers } W)
    (hstop : ∀ (D : Nat) (c : Nat → Prop) (j : Code) (pre : List α) (W : World), w.heap.size ≤ D → (∀ k, c k → w.heap.size ≤ k) → Sp pre → Ix c j pre W → W.heap[D]? = some (.deferred (some [])) → j.wp P Q { a with defers := { target := .collected D, args := #[] } :: a.defers } W) :
    (Code.rangeFunc g #[p] assign body).wp P Q a w :=
  (wpIn_wide (n := 3)).1 (wpIn_rangeFunc_rollB (F := Fence.wide) (n := 3) (ps := #[p]) rfl (by omega) hg trivial eg hseq hr (fun _ => rfl) hGiv I Ix hI hIx h0 (fun x b => { tmps := (a.tmps.setIfInBounds p (enc x)).setIfInBounds q (.pointer (some ⟨b, 0, none⟩)), defers := [] }) cl T hGivA
    (fun l x W K hK => by simpa using hassign l x W K hK) hbody hdone (fun D c j pre W h1 h2 h3 h4 h5 => wpIn_wide.2 (hstop D c j pre W h1 h2 h3 h4 h5)))
end Go.Proofs.Ytjmdibgncaljaaa
