/- The walk of run.execute, all kinds; what New lays. -/
import Derived.Test.YtpgjpoilcdkjgaaO15
namespace Go.Proofs.Ytpgjpoilcdkjgaa
open Go.RowKit Go.Maps

theorem exec_any (B cb mb T : Nat) (e : Ev) (R : Rn) (w : World) (h : RunSt w B cb mb T R) (hT : T + 1 ≤ 20000) (he : e.Fit) (hz : 4 ≤ e.k → e.off = 0) :
    Calls Try.prog 42 #[.pointer (some ⟨B + 4, 0, none⟩), .agg #[.int .u8 (e.k : Int), .int .i64 (e.t : Int), .int .u64 (e.off : Int), .int .u64 (e.val : Int), .int .u64 (e.old : Int), .int .i64 (e.line : Int), .int .i64 e.n, e.ch]] w (ExPost w B cb mb T (execP R e)) := by
  obtain ⟨k, t, off, val, old, line, n, ch⟩ := e
  have hk := he.k
  have h2 := he.t
  have h3 := he.off
  have h4 := he.val
  have h5 := he.old
  have h6 := he.line
  have h7 := he.n
  have h8 := he.nb
  simp only at hk h2 h3 h4 h5 h6 h7 h8 hz ⊢
  obtain rfl | rfl | rfl | rfl | rfl : k = 1 ∨ k = 2 ∨ k = 3 ∨ k = 4 ∨ k = 5 := by omega
  · have hx : execP R ⟨1, t, off, val, old, line, n, ch⟩ = if off < 64 * R.G.n ∧ off % 8 = 0 then storeP R off val else R := rfl
    rw [hx]; exact exec1 B cb mb T off val _ _ _ _ _ R w h hT h3 h4
  · have hx : execP R ⟨2, t, off, val, old, line, n, ch⟩ = if (off < 64 * R.G.n ∧ off % 8 = 0) ∧ R.cur off = old then storeP R off val else R := rfl
    rw [hx]; exact exec2 B cb mb T off val old _ _ _ _ R w h hT h3 h4
  · have hx : execP R ⟨3, t, off, val, old, line, n, ch⟩ = if off < 64 * R.G.n then noteP R t (off / 64) (R.G.ct.getD (off / 64) 0) else R := rfl
    rw [hx]; exact exec3 B cb mb T t off _ _ _ _ _ R w h hT h3 h2
  · have hx : execP R ⟨4, t, off, val, old, line, n, ch⟩ = fenceP R t := rfl
    obtain rfl := hz (by omega)
    rw [hx]; exact exec4 B cb mb T t _ _ _ _ _ R w h hT h2
  · obtain rfl := hz (by omega)
    obtain ⟨m, rfl⟩ := Int.eq_ofNat_of_zero_le (h7 rfl)
    have hx : execP R ⟨5, t, 0, val, old, line, (m : Int), ch⟩ = if line < R.G.n ∧ (m : Int) ≤ (R.G.ct.getD line 0 : Int) - (R.G.md.getD line 0 : Int) then backP R line m else R := rfl
    rw [hx]; exact exec5 B cb mb T line m _ _ _ _ R w h hT h6 (by omega)

def initR (n : Nat) : Rn := ⟨⟨n, [], [], List.replicate n 0, List.replicate n 0⟩, fun _ => 0, fun _ _ => none⟩
def runP (n : Nat) (es : List Ev) : Rn := es.foldl execP (initR n)
theorem runP_snoc (n : Nat) (es : List Ev) (e : Ev) : runP n (es ++ [e]) = execP (runP n es) e := by unfold runP; rw [List.foldl_append]; rfl
theorem execP_n (R : Rn) (e : Ev) : (execP R e).G.n = R.G.n := by
  unfold execP
  (repeat' split) <;> rfl
theorem runP_n (n : Nat) (es : List Ev) : (runP n es).G.n = n := by
  unfold runP
  have : ∀ (es : List Ev) (R : Rn), (es.foldl execP R).G.n = R.G.n := by
    intro es
    induction es with
    | nil => intro R; rfl
    | cons e es ih => intro R; rw [List.foldl_cons, ih, execP_n]
  rw [this]; rfl
theorem initR_ok (n : Nat) (h1 : 1 ≤ n) (h2 : n ≤ 4096) : (initR n).Ok 0 := by
  have g : ∀ k, (List.replicate n 0).getD k 0 = 0 := by intro k; rw [List.getD, List.getElem?_replicate]; split <;> rfl
  refine ⟨by omega, h1, h2, Nat.le_refl _, rfl, by simp [initR], by simp [initR], by simp [initR], by simp [initR], by simp [initR], ?_, ?_, ?_, ?_⟩
  · intro c hc; have := (List.mem_replicate.1 hc).2; omega
  · intro k; show (List.replicate n 0).getD k 0 ≤ (List.replicate n 0).getD k 0; exact Nat.le_refl _
  · intro k; show 0 < _; omega
  · intro t k c hc; cases hc

/-- The cells of a run whose first t notes are made. -/
def runCells (B t : Nat) : List Value := [.pointer (some ⟨B + 2, 0, none⟩), .map (some (B + 3))] ++ (List.range 8).map fun j => if j < t then Value.map (some (B + 5 + j)) else Value.map none
structure InitSt (w : World) (B cb mb n t : Nat) : Prop where
  cm : cb + mb = 2 * B + 1 ∧ B ≤ cb ∧ B ≤ mb
  ct : Has w cb (List.replicate n (.int .i64 0)) 3
  md : Has w mb (List.replicate n (.int .i64 0)) 3
  gr : Has w (B + 2) [.int .i64 (n : Int), .slice none 0 0, .slice none 0 0, .slice (some ⟨cb, 0, none⟩) n n, .slice (some ⟨mb, 0, none⟩) n n] 90
  cur : w.heap[B + 3]? = some (.map #[] 0)
  run : Has w (B + 4) (runCells B t) 96
  notes : ∀ j, j < t → w.heap[B + 5 + j]? = some (.map #[] 0)
  sz : w.heap.size = B + 5 + t
theorem runCells_len (B t : Nat) : (runCells B t).length = 10 := by simp [runCells]
theorem runCells_set (B t : Nat) (ht : t < 8) : (runCells B t).set (2 + t) (.map (some (B + 5 + t))) = runCells B (t + 1) := by
  match t, ht with
  | 0, _ | 1, _ | 2, _ | 3, _ | 4, _ | 5, _ | 6, _ | 7, _ => rfl
theorem own_empty {w : World} {P : Program} {k : TypeId} {R : Value → Option (DataW Unit × List MemPlace)} {b : Nat} (h : w.heap[b]? = some (.map #[] 0)) : w.ownsMap P k R b 0 (.map []) := by
  have h0 := World.ownsMap_made (H := Unit) w P k R
  obtain ⟨es, cl, hb, r⟩ := h0
  rw [heap_alloc_new] at hb
  cases hb
  exact ⟨#[], 0, h, r⟩
theorem InitSt.step {w w' : World} {B cb mb n t : Nat} (h : InitSt w B cb mb n t) (ht : t < 8) (ho : w' = (w.alloc (.map #[] 0)).setCell ⟨B + 4, 2 + t, none⟩ (.map (some (B + 5 + t)))) : InitSt w' B cb mb n (t + 1) := by
  subst ho
  have hcm := h.cm
  have hz := h.sz
  have O : Only (fun k => k = B + 4) w ((w.alloc (.map #[] 0)).setCell ⟨B + 4, 2 + t, none⟩ (.map (some (B + 5 + t)))) := ((Only.refl (fun k => k = B + 4) w).alloc _).setCell (fun _ => rfl) _
  refine ⟨hcm, h.ct.only O (by omega), h.md.only O (by omega), h.gr.only O (by omega), ?_, ?_, ?_, ?_⟩
  · rw [O.block _ (by omega) (by omega)]; exact h.cur
  · have := (h.run.alloc (.map #[] 0)).set (2 + t) (.map (some (B + 5 + t)))
    rw [runCells_set B t ht] at this
    exact this
  · intro j hj
    rcases Nat.lt_or_ge j t with h1 | h1
    · rw [O.block _ (by omega) (by omega)]; exact h.notes j h1
    · obtain rfl : j = t := by omega
      rw [heap_setCell_ne (by show B + 5 + j ≠ B + 4; omega), ← hz]
      exact heap_alloc_new
  · simp; omega
theorem InitSt.run0 {w : World} {B cb mb n : Nat} (h : InitSt w B cb mb n 8) (h1 : 1 ≤ n) (h2 : n ≤ 4096) : RunSt w B cb mb 0 (initR n) := by
  refine ⟨initR_ok n h1 h2, h.cm, h.run, ?_, ?_, ?_, ?_, ?_⟩
  · refine ⟨none, 0, none, 0, h.gr, World.ownsRow_nil _ _ _ _, World.ownsRow_nil _ _ _ _, ?_, ?_, ?_⟩
    · intro k hk; cases hk
    · intro k hk; cases hk
    · intro k hk; cases hk
  · simpa [initR, nats] using h.ct
  · simpa [initR, nats] using h.md
  · exact ⟨.map [], own_empty h.cur, ⟨[], rfl⟩, fun k _ => rfl⟩
  · intro t ht
    exact NoteV.none (own_empty (h.notes t ht))
theorem RunSt.graph {w : World} {B cb mb T : Nat} {R : Rn} (h : RunSt w B cb mb T R) : GraphSt w (B + 2) R.G := by
  have ok := h.ok
  have hT := ok.t
  obtain ⟨wa, wc, ra, rc, h1, h2, h3, _⟩ := h.ex
  have hcl := ok.cl
  have hml := ok.ml
  have e1 : Rd w (.slice (some ⟨cb, 0, none⟩) R.G.n R.G.n) R.G.n (nats R.G.ct) := Rd.of_has h.ct _ _
  have e2 : Rd w (.slice (some ⟨mb, 0, none⟩) R.G.n R.G.n) R.G.n (nats R.G.md) := Rd.of_has h.md _ _
  refine ⟨⟨ok.n1, ok.n2, by have := ok.wl; omega, ok.rl, ok.cl, ok.ml, ok.off, fun r hr => by have := ok.rb r hr; omega, fun c hc => by have := ok.cb c hc; omega, ?_, ok.mc, ok.al⟩, wa, wc, ra, rc, _, _, h1, Rd.of_own h2, Rd.of_own h3, e1, e2⟩
  intro m hm
  obtain ⟨i, hi, rfl⟩ := List.getElem_of_mem hm
  have hc := ok.mc i
  have hl : R.G.ct.getD i 0 ≤ T := ok.cb _ (mem_getD 0 (by omega))
  have e : R.G.md.getD i 0 = R.G.md[i] := by rw [List.getD, List.getElem?_eq_getElem hi]; rfl
  omega
end Go.Proofs.Ytpgjpoilcdkjgaa
