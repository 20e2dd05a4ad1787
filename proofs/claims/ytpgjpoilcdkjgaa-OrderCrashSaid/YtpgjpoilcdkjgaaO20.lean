/- The walk of the reference's Run. -/
import Derived.Test.YtpgjpoilcdkjgaaO19
namespace Go.Proofs.Ytpgjpoilcdkjgaa
open Go.RowKit

theorem RefSt.app_out {w2 w4 : World} {B oc fc oc' : Nat} {oa fa oa' : Option Addr} {words : List Nat} {out : List RSt} {fl : List (Nat × Nat × Nat)} {s : RSt} (h : RefSt w2 B oa oc fa fc ⟨words, out, fl⟩)
    (own4 : w4.ownsRow 0 57 4 (.slice oa' (out.length + 1) oc') (out.length + 1) (sCells out ++ s.cells)) (only4 : Only (fun k => Value.ownBlock (.slice oa out.length oc) = some k) w2 w4)
    (fresh : ∀ k, Value.ownBlock (.slice oa' (out.length + 1) oc') = some k → Value.ownBlock (.slice oa out.length oc) = some k ∨ w2.heap.size ≤ k) : RefSt w4 B oa' oc' fa fc ⟨words, out ++ [s], fl⟩ := by
  have hB := h.wd.lt
  refine ⟨h.wd.only only4 (fun e => by have := h.ob B e; omega), ?_, ownsRow_only h.fl only4 (fun k hk e => h.of k e hk), ?_, h.fb, ?_⟩
  · unfold StR; simp only [List.length_append, List.length_singleton, sCells_snoc]; exact own4
  · intro k hk
    simp only [List.length_append, List.length_singleton] at hk
    rcases fresh k hk with h1 | h1
    · exact h.ob k h1
    · omega
  · intro k hk hf
    simp only [List.length_append, List.length_singleton] at hk
    rcases fresh k hk with h1 | h1
    · exact h.of k h1 hf
    · have := ownsRow_lt h.fl hf; omega
theorem RefSt.app_fl {w2 w4 : World} {B oc fc fc' : Nat} {oa fa fa' : Option Addr} {words : List Nat} {out : List RSt} {fl : List (Nat × Nat × Nat)} {f : Nat × Nat × Nat} (h : RefSt w2 B oa oc fa fc ⟨words, out, fl⟩)
    (own4 : w4.ownsRow 0 131 3 (.slice fa' (fl.length + 1) fc') (fl.length + 1) (fCells fl ++ fCell f)) (only4 : Only (fun k => Value.ownBlock (.slice fa fl.length fc) = some k) w2 w4)
    (fresh : ∀ k, Value.ownBlock (.slice fa' (fl.length + 1) fc') = some k → Value.ownBlock (.slice fa fl.length fc) = some k ∨ w2.heap.size ≤ k) : RefSt w4 B oa oc fa' fc' ⟨words, out, fl ++ [f]⟩ := by
  have hB := h.wd.lt
  refine ⟨h.wd.only only4 (fun e => by have := h.fb B e; omega), ownsRow_only h.out only4 (fun k hk e => h.of k hk e), ?_, h.ob, ?_, ?_⟩
  · simp only [List.length_append, List.length_singleton, fCells_snoc]; exact own4
  · intro k hk
    simp only [List.length_append, List.length_singleton] at hk
    rcases fresh k hk with h1 | h1
    · exact h.fb k h1
    · omega
  · intro k hk hf
    simp only [List.length_append, List.length_singleton] at hf
    rcases fresh k hf with h1 | h1
    · exact h.of k hk h1
    · have := ownsRow_lt h.out hk; omega
theorem RefSt.word {w : World} {B oc fc : Nat} {oa fa : Option Addr} {S : RRun} (h : RefSt w B oa oc fa fc S) (i v : Nat) : RefSt (w.setCell ⟨B, i, none⟩ (.int .u64 (v : Int))) B oa oc fa fc ⟨S.words.set i v, S.out, S.fl⟩ := by
  have O : Only (fun k => k = B) w (w.setCell ⟨B, i, none⟩ (.int .u64 (v : Int))) := (Only.refl (fun k => k = B) w).setCell (fun _ => rfl) _
  refine ⟨?_, ownsRow_only h.out O (fun k hk e => by have := h.ob k hk; omega), ownsRow_only h.fl O (fun k hk e => by have := h.fb k hk; omega), h.ob, h.fb, h.of⟩
  show Has _ B (u64s (S.words.set i v)) 42
  rw [u64s_set]; exact h.wd.set i _
theorem mark_at (sa : Option Addr) (cap N : Nat) (l : List RSt) (line n most : Nat) (hN : l.length = N) (w : World) (h : StR w sa cap l) (hl : N ≤ 20000) (hn : n ≤ N) (hm : most ≤ 4294967296) :
    Calls Try.prog 72 #[.slice sa N cap, .int .i64 line, .int .i64 n, .int .i64 most] w fun e w' => e = .returned (.tuple #[]) ∧ StR w' sa cap (mkP l line n most) ∧ Only (fun k => Value.ownBlock (.slice sa N cap) = some k) w w' := by
  subst hN; exact mark_any sa cap l line n most w h hl hn hm

/-- The flushes of other threads, of the first j. -/
def leftL (t : Nat) (fl : List (Nat × Nat × Nat)) (j : Nat) : List (Nat × Nat × Nat) := (fl.take j).filter fun f => decide (f.1 ≠ t)
theorem leftL_all (t : Nat) (fl : List (Nat × Nat × Nat)) : leftL t fl fl.length = fl.filter fun f => decide (f.1 ≠ t) := by unfold leftL; rw [List.take_of_length_le (Nat.le_refl _)]
theorem leftL_le (t : Nat) (fl : List (Nat × Nat × Nat)) (j : Nat) : (leftL t fl j).length ≤ j := by
  unfold leftL
  have h1 := List.length_filter_le (fun f : Nat × Nat × Nat => decide (f.1 ≠ t)) (fl.take j)
  have h2 := List.length_take_le j fl
  omega
theorem leftL_hit (t : Nat) (fl : List (Nat × Nat × Nat)) (j : Nat) (h : j < fl.length) (hf : (fl.getD j (0, 0, 0)).1 = t) : leftL t fl (j + 1) = leftL t fl j := by
  unfold leftL
  rw [take_getD fl j (0, 0, 0) h, List.filter_append]
  generalize fl.getD j (0, 0, 0) = g at *
  simp [hf]
theorem leftL_miss (t : Nat) (fl : List (Nat × Nat × Nat)) (j : Nat) (h : j < fl.length) (hf : ¬ (fl.getD j (0, 0, 0)).1 = t) : leftL t fl (j + 1) = leftL t fl j ++ [fl.getD j (0, 0, 0)] := by
  unfold leftL
  rw [take_getD fl j (0, 0, 0) h, List.filter_append]
  generalize fl.getD j (0, 0, 0) = g at *
  simp [hf]
theorem fenceO_length (t : Nat) (out : List RSt) (fl : List (Nat × Nat × Nat)) : (fenceO t out fl).length = out.length := by
  induction fl using snoc_ind with
  | h0 => rfl
  | h1 fl f ih => rw [fenceO_snoc]; split <;> simp [ih, mkP_length]
theorem fenceO_hit (t : Nat) (out : List RSt) (fl : List (Nat × Nat × Nat)) (j : Nat) (h : j < fl.length) (hf : (fl.getD j (0, 0, 0)).1 = t) :
    fenceO t out (fl.take (j + 1)) = mkP (fenceO t out (fl.take j)) (fl.getD j (0, 0, 0)).2.1 (fl.getD j (0, 0, 0)).2.2 out.length := by
  rw [take_getD fl j (0, 0, 0) h, fenceO_snoc, if_pos hf, fenceO_length]
theorem fenceO_miss (t : Nat) (out : List RSt) (fl : List (Nat × Nat × Nat)) (j : Nat) (h : j < fl.length) (hf : ¬ (fl.getD j (0, 0, 0)).1 = t) :
    fenceO t out (fl.take (j + 1)) = fenceO t out (fl.take j) := by
  rw [take_getD fl j (0, 0, 0) h, fenceO_snoc, if_neg hf]
theorem RefSt.marked {w w' : World} {B oc fc : Nat} {oa fa : Option Addr} {words : List Nat} {out out' : List RSt} {fl : List (Nat × Nat × Nat)} (h : RefSt w B oa oc fa fc ⟨words, out, fl⟩) (hs : StR w' oa oc out') (hl : out'.length = out.length)
    (ho : Only (fun k => Value.ownBlock (.slice oa out.length oc) = some k) w w') : RefSt w' B oa oc fa fc ⟨words, out', fl⟩ :=
  ⟨h.wd.only ho (fun e => by have := h.ob B e; omega), hs, ownsRow_only h.fl ho (fun k hk e => h.of k e hk), (by simp only [hl]; exact h.ob), h.fb, (by simp only [hl]; exact h.of)⟩
/-- What holds inside a fence of Run. -/
structure InR (w wr : World) (oa : Option Addr) (oc : Nat) (fa : Option Addr) (fc : Nat) (S : RRun) (out : List RSt) (la : Option Addr) (lc : Nat) (left : List (Nat × Nat × Nat)) (ev : List Value) (wq : World) : Prop where
  r : RefSt wq w.heap.size oa oc fa fc ⟨S.words, out, S.fl⟩
  l : wq.ownsRow 0 131 3 (.slice la left.length lc) left.length (fCells left)
  lb : ∀ k, Value.ownBlock (.slice la left.length lc) = some k → wr.heap.size < k
  e : Has wq wr.heap.size ev 67
  b : Below w.heap.size w wq
theorem InR.only0 {w wr wq wq2 : World} {oa fa la : Option Addr} {oc fc lc : Nat} {S : RRun} {out : List RSt} {left : List (Nat × Nat × Nat)} {ev : List Value} (h : InR w wr oa oc fa fc S out la lc left ev wq) (ho : Only (fun _ => False) wq wq2) : InR w wr oa oc fa fc S out la lc left ev wq2 :=
  ⟨h.r.only ho (fun _ _ h => h), ownsRow_only h.l ho (fun _ _ h => h), h.lb, h.e.only ho (fun h => h), h.b.trans (ho.below h.b.size (fun _ _ h => h.elim))⟩
theorem InR.mark {w wr wq wq2 : World} {oa fa la : Option Addr} {oc fc lc N : Nat} {S : RRun} {out out' : List RSt} {left : List (Nat × Nat × Nat)} {ev : List Value} (h : InR w wr oa oc fa fc S out la lc left ev wq) (hs : StR wq2 oa oc out') (hl : out'.length = out.length) (hN : out.length = N)
    (ho : Only (fun k => Value.ownBlock (.slice oa N oc) = some k) wq wq2) (hol : ∀ k, Value.ownBlock (.slice oa N oc) = some k → k < wr.heap.size) : InR w wr oa oc fa fc S out' la lc left ev wq2 := by
  subst hN
  exact ⟨h.r.marked hs hl ho, ownsRow_only h.l ho (fun k hk e => by have := hol k e; have := h.lb k hk; omega), h.lb, h.e.only ho (fun e => by have := hol _ e; omega), h.b.trans (ho.below h.b.size (fun k _ e => by have := h.r.ob k e; omega))⟩
theorem InR.app {w wr wq wq2 : World} {oa fa la la' : Option Addr} {oc fc lc lc' : Nat} {S : RRun} {out : List RSt} {left : List (Nat × Nat × Nat)} {f : Nat × Nat × Nat} {ev : List Value} (h : InR w wr oa oc fa fc S out la lc left ev wq)
    (own4 : wq2.ownsRow 0 131 3 (.slice la' (left.length + 1) lc') (left.length + 1) (fCells left ++ fCell f)) (only4 : Only (fun k => Value.ownBlock (.slice la left.length lc) = some k) wq wq2)
    (fresh : ∀ k, Value.ownBlock (.slice la' (left.length + 1) lc') = some k → Value.ownBlock (.slice la left.length lc) = some k ∨ wq.heap.size ≤ k)
    {N : Nat} (hN : out.length = N) (hol : ∀ k, Value.ownBlock (.slice oa N oc) = some k → k < wr.heap.size) (hfl : ∀ k, Value.ownBlock (.slice fa S.fl.length fc) = some k → k < wr.heap.size) (hw : w.heap.size ≤ wr.heap.size) : InR w wr oa oc fa fc S out la' lc' (left ++ [f]) ev wq2 := by
  subst hN
  have he := h.e.lt
  have hwd : w.heap.size < wr.heap.size ∨ w.heap.size = wr.heap.size := by omega
  refine ⟨⟨h.r.wd.only only4 (fun e => by have := h.lb _ e; omega), ownsRow_only h.r.out only4 (fun k hk e => by have := h.lb k e; have := hol k hk; omega), ownsRow_only h.r.fl only4 (fun k hk e => by have := h.lb k e; have := hfl k hk; omega), h.r.ob, h.r.fb, h.r.of⟩, ?_, ?_,
    h.e.only only4 (fun e => by have := h.lb _ e; omega), h.b.trans (only4.below h.b.size (fun k _ e => by have := h.lb k e; omega))⟩
  · simp only [List.length_append, List.length_singleton, fCells_snoc]; exact own4
  · intro k hk
    simp only [List.length_append, List.length_singleton] at hk
    rcases fresh k hk with h1 | h1
    · exact h.lb k h1
    · omega
theorem InR.done {w wr wq : World} {oa fa la : Option Addr} {oc fc lc : Nat} {S : RRun} {out : List RSt} {left : List (Nat × Nat × Nat)} {ev : List Value} (h : InR w wr oa oc fa fc S out la lc left ev wq)
    {N : Nat} (hN : out.length = N) (hol : ∀ k, Value.ownBlock (.slice oa N oc) = some k → k < wr.heap.size) (hw : w.heap.size ≤ wr.heap.size) : RefSt wq w.heap.size oa oc la lc ⟨S.words, out, left⟩ := by
  subst hN
  exact ⟨h.r.wd, h.r.out, h.l, h.r.ob, fun k hk => by have := h.lb k hk; omega, fun k hk e => by have h1 := h.lb k e; have h2 := hol k hk; omega⟩
theorem news_at {w : World} {b : Nat} {cs : List Value} {T : TypeId} (h : Has w b cs T) (j : Nat) (u : Value) (hj : cs[j]? = some u) : w.cell? (Addr.add ⟨b, 0, none⟩ j) = some u := by
  have := h.cell hj
  unfold Addr.add
  split
  · simp_all
  · simpa using this
/-- What is known of the reference's run after k events. -/
structure RefOk (S : RRun) (n k : Nat) : Prop where
  wl : S.words.length = 8 * n
  ol : S.out.length ≤ k
  fl : S.fl.length ≤ k
  fb : ∀ f ∈ S.fl, f.2.1 < n ∧ f.2.2 ≤ S.out.length
theorem refOk (n : Nat) (h1 : 1 ≤ n) (h2 : n ≤ 4096) (es : List Ev) (hl : es.length ≤ 20000) (hf : ∀ e ∈ es, e.Fit) : RefOk (refRunP n es) n es.length := by
  obtain ⟨ok, ag⟩ := agree_run n h1 h2 es hl hf
  have hn : (runP n es).G.n = n := runP_n n es
  have ho : (refRunP n es).out.length = (runP n es).G.ws.length := by rw [ag.out, stf_length]
  have hw := ag.wl
  rw [hn] at hw
  refine ⟨hw, by rw [ho]; exact ok.wl, fl_le n es, fun f hf => ?_⟩
  have := ag.fb f hf
  rw [hn] at this
  rw [ho]; exact this
/-- The relation of Run's loop. -/
def RunRel (w : World) (n : Nat) (es : List Ev) (k : Nat) (out fl : Value) (wr : World) : Prop :=
  ∃ oa oc fa fc, out = .slice oa (refRunP n (es.take k)).out.length oc ∧ fl = .slice fa (refRunP n (es.take k)).fl.length fc ∧ RefSt wr w.heap.size oa oc fa fc (refRunP n (es.take k)) ∧ Below w.heap.size w wr
def RefPost (w : World) (n : Nat) (es : List Ev) (e : Ending) (w' : World) : Prop :=
  ∃ sa cap, e = .returned (.slice sa (refRunP n es).out.length cap) ∧ Rd w' (.slice sa (refRunP n es).out.length cap) (refRunP n es).out.length (sCells (refRunP n es).out) ∧ Below w.heap.size w w'

set_option maxHeartbeats 40000000 in
set_option maxRecDepth 100000 in
theorem refrun_any (n : Nat) (es : List Ev) (a : Option Addr) (cap : Nat) (w : World) (h1 : 1 ≤ n) (h2 : n ≤ 4096) (hl : es.length ≤ 20000) (hr : Rd w (.slice a es.length cap) es.length (reCells es)) (hg : ∀ e ∈ es, e.Fit) (hz : ∀ e ∈ es, 4 ≤ e.k → e.off = 0) :
    Calls Try.prog 40 #[.int .i64 n, .slice a es.length cap] w (RefPost w n es) := by
  generalize hpost : RefPost w n es = post
  replace hpost := Lib.hid hpost
  obtain ⟨m8, hm8⟩ : ∃ m, 8 * n = m := ⟨_, rfl⟩
  have hmk : ∀ w : World, (Instr.makeSlice 109 (.int .i64 (8 * (n : Int))) (.int .i64 (8 * (n : Int)))).run Try.prog w = .ok (.slice (some ⟨w.heap.size, 0, none⟩) m8 m8) (w.alloc (.cells (Array.replicate m8 (.int .u64 0)) 42)) := by
    intro w
    have := make1 (P := Try.prog) 109 42 (.int .u64 0) 8 Try.underlying109 info42 rfl m8 (by omega) (by omega) w
    rw [← this, ← hm8]; simp
  have hi0 : RefSt (w.alloc (.cells (Array.replicate m8 (.int .u64 0)) 42)) w.heap.size none 0 none 0 (refRunP n (es.take 0)) := by
    have := Has.rep w m8 (.int .u64 0) 42
    refine ⟨?_, World.ownsRow_nil _ _ _ _, World.ownsRow_nil _ _ _ _, ?_, ?_, ?_⟩
    · show Has _ _ (u64s (List.replicate (8 * n) 0)) 42
      rw [hm8]; simpa [u64s] using this
    · intro k hk; cases hk
    · intro k hk; cases hk
    · intro k hk; cases hk
  have hb0 : Below w.heap.size w (w.alloc (.cells (Array.replicate m8 (.int .u64 0)) 42)) := (Below.refl _ _).alloc (Nat.le_refl _) _
  have hm8b : m8 ≤ 32768 := by omega
  have hm8i : 8 * (n : Int) = (m8 : Int) := by omega
  have hm8l : 8 * n ≤ m8 ∧ m8 ≤ 8 * n := by omega
  replace hm8 := Lib.hid hm8
  replace hm8i := Lib.hid hm8i
  go_enter Try.func40, Try.ntmps40
  go_wp2_with fail
  go_loopw [6, 7, 19] (fun out fl i wr => ∃ k : Nat, k ≤ es.length ∧ i = .int .i64 k ∧ RunRel w n es k out fl wr) (fun _ _ i _ => es.length - (intOf i).toNat)
  case atStart => exact ⟨0, by omega, rfl, none, 0, none, 0, rfl, rfl, hi0, hb0⟩
  case round =>
    clear hi0 hb0 hmk
    obtain ⟨k, hk, rfl, oa, oc, fa, fc, rfl, rfl, hR, hB⟩ := hrel
    by_cases hlt : k < es.length
    · have he := get_of_lt ⟨0, 0, 0, 0, 0, 0, 0, .int .i64 0⟩ hlt
      have hge := hg _ (List.mem_of_getElem? he)
      have hgz := hz _ (List.mem_of_getElem? he)
      have htk : es.take (k + 1) = es.take k ++ [es.getD k ⟨0, 0, 0, 0, 0, 0, 0, .int .i64 0⟩] := take_getD es k _ hlt
      have hsucc := refRunP_snoc n (es.take k) (es.getD k ⟨0, 0, 0, 0, 0, 0, 0, .int .i64 0⟩)
      rw [← htk] at hsucc
      have hok := refOk n h1 h2 (es.take k) (by simp; omega) (fun e h => hg e (List.mem_of_mem_take h))
      rw [List.length_take_of_le hk] at hok
      have hrel : ∀ wz oa oc fa fc, RefSt wz w.heap.size oa oc fa fc (refRunP n (es.take (k + 1))) → Below w.heap.size w wz → RunRel w n es (k + 1) (.slice oa (refRunP n (es.take (k + 1))).out.length oc) (.slice fa (refRunP n (es.take (k + 1))).fl.length fc) wz :=
        fun wz oa oc fa fc h1 h2 => ⟨oa, oc, fa, fc, rfl, rfl, h1, h2⟩
      rw [hsucc] at hrel
      clear htk hsucc
      generalize es.getD k ⟨0, 0, 0, 0, 0, 0, 0, .int .i64 0⟩ = e at *
      generalize refRunP n (es.take k) = S at *
      obtain ⟨bl, ol, cl, ea, fa'⟩ := (hr.kept hB).cells (by omega)
      simp only [Value.slice.injEq, true_and] at ea
      obtain ⟨rfl, hcap⟩ := ea
      replace hcap := Lib.hid hcap
      have c0 : wr.cell? ⟨bl, ol + k * 8, none⟩ = _ := fa' _ _ (reCells_get es k e he 0 _ rfl)
      have c1 : wr.cell? ⟨bl, ol + k * 8 + 1, none⟩ = _ := fa' _ _ (reCells_get es k e he 1 _ rfl)
      have c2 : wr.cell? ⟨bl, ol + k * 8 + 2, none⟩ = _ := fa' _ _ (reCells_get es k e he 2 _ rfl)
      have c3 : wr.cell? ⟨bl, ol + k * 8 + 3, none⟩ = _ := fa' _ _ (reCells_get es k e he 3 _ rfl)
      have c4 : wr.cell? ⟨bl, ol + k * 8 + 4, none⟩ = _ := fa' _ _ (reCells_get es k e he 4 _ rfl)
      have c5 : wr.cell? ⟨bl, ol + k * 8 + 5, none⟩ = _ := fa' _ _ (reCells_get es k e he 5 _ rfl)
      have c6 : wr.cell? ⟨bl, ol + k * 8 + 6, none⟩ = _ := fa' _ _ (reCells_get es k e he 6 _ rfl)
      have c7 : wr.cell? ⟨bl, ol + k * 8 + 7, none⟩ = _ := fa' _ _ (reCells_get es k e he 7 _ rfl)
      replace he := Lib.hid he
      clear fa'
      obtain ⟨kk, t, off, val, old, line, en, ch⟩ := e
      have hfk := hge.k
      have hft := hge.t
      have hfo := hge.off
      have hfv := hge.val
      have hfl := hge.line
      have hfn := hge.n
      have hfb := hge.nb
      simp only at hgz
      simp only at hfk hft hfo hfv hfl hfn hfb c0 c1 c2 c3 c4 c5 c6 c7
      have hlI : (k : Int) < es.length := by omega
      have hBs := hB.size
      obtain ⟨kv, hkv⟩ : ∃ kv : Int, (kk : Int) = kv := ⟨_, rfl⟩
      rw [hkv] at c0
      have hA := hR.only ((Only.refl (fun _ => False) wr).alloc (.cells #[.int .i64 kv, .int .i64 (t : Int), .int .u64 (off : Int), .int .u64 (val : Int), .int .u64 (old : Int), .int .i64 (line : Int), .int .i64 en, .int .i64 0] 67)) (fun _ _ h => h)
      have hBA := hB.alloc hBs (.cells #[.int .i64 kv, .int .i64 (t : Int), .int .u64 (off : Int), .int .u64 (val : Int), .int .u64 (old : Int), .int .i64 (line : Int), .int .i64 en, .int .i64 0] 67)
      have hE := Has.new wr [.int .i64 kv, .int .i64 (t : Int), .int .u64 (off : Int), .int .u64 (val : Int), .int .u64 (old : Int), .int .i64 (line : Int), .int .i64 en, .int .i64 0] 67
      have hwl := hok.wl
      have hoL := hok.ol
      have hfL := hok.fl
      obtain rfl | rfl | rfl | rfl | rfl : kk = 1 ∨ kk = 2 ∨ kk = 3 ∨ kk = 4 ∨ kk = 5 := by omega
      · -- a store
        obtain rfl : kv = 1 := by omega
        replace hkv := Lib.hid hkv
        by_cases hin : off < 64 * n
        · by_cases hal : off % 8 = 0
          · have hst : refStep n S ⟨1, t, off, val, old, line, en, ch⟩ = ⟨S.words.set (off / 8) val, S.out ++ [⟨off / 64, off, val, false⟩], S.fl⟩ := by
              unfold refStep; rw [if_pos ⟨⟨hin, hal⟩, Or.inl rfl⟩]
            rw [hst] at hrel
            clear hst
            have d1 : ((off : Int) % 8 == 0) = true := by rw [beq_iff_eq]; omega
            have d2 : decide ((off : Int) < 64 * (n : Int)) = true := decide_eq_true (by omega)
            have i1 : (off : Int) % 8 = 0 := by omega
            have i2 : (off : Int) < 64 * (n : Int) := by omega
            have i3 : (off : Int) / 8 < (m8 : Int) := by omega
            have i4 : (0 : Int) ≤ (off : Int) / 8 := by omega
            have cw := hA.wd.cell (o := off / 8) (u64s_get _ _ _ (get_of_lt 0 (by omega)))
            have cf := hA.wd.free (off / 8)
            have hW := (hR.word (off / 8) val).only ((Only.refl (fun _ => False) _).alloc (.cells #[.int .i64 1, .int .i64 (t : Int), .int .u64 (off : Int), .int .u64 (val : Int), .int .u64 (old : Int), .int .i64 (line : Int), .int .i64 en, .int .i64 0] 67)) (fun _ _ h => h)
            have hlt2 : w.heap.size < wr.heap.size := hR.wd.lt
            have hne1 : ¬ w.heap.size = wr.heap.size := by omega
            have hne2 : ¬ wr.heap.size = w.heap.size := by omega
            have hBW := ((Only.refl (fun k => k = w.heap.size) wr).setCell (a := ⟨w.heap.size, off / 8, none⟩) (fun _ => rfl) (.int .u64 (val : Int))).below (B := w.heap.size) (by omega) (by intro k _ e; omega)
            have hBW2 := (hB.trans hBW).alloc (by have := hB.size; simp; omega) (.cells #[.int .i64 1, .int .i64 (t : Int), .int .u64 (off : Int), .int .u64 (val : Int), .int .u64 (old : Int), .int .i64 (line : Int), .int .i64 en, .int .i64 0] 67)
            clear hBW hBA hA
            replace hrel := Lib.hid hrel
            replace hwl := Lib.hid hwl
            clear hR hok
            go_wp2_with (at_builtin; refine wpList_app rfl (.tmp 66) (.tmp 76) 25 rfl 57 (.agg #[.int .i64 0, .int .u64 0, .int .u64 0, .bool false]) 4 32 Try.underlying25 info57 rfl (by decide) (by decide) oa S.out.length oc (sCells S.out) (hW.out.alloc _) rfl _ 1 1 [.int .i64 ((off : Int) / 64), .int .u64 (off : Int), .int .u64 (val : Int), .bool false] rfl rfl ?hnews (by simp [Value.oneCell']) ?hby ?_)
            case hby => omega
            intro sa cap' w4 own4 only4 fresh4
            have hW2 := hW.only ((Only.refl (fun _ => False) _).alloc (.cells #[.int .i64 ((off : Int) / 64), .int .u64 (off : Int), .int .u64 (val : Int), .bool false] 57)) (fun _ _ h => h)
            have hfin := RefSt.app_out (s := ⟨off / 64, off, val, false⟩) hW2 (by simpa [RSt.cells] using own4) only4 (by simpa using fresh4)
            have hBf := (hBW2.alloc hBW2.size (.cells #[.int .i64 ((off : Int) / 64), .int .u64 (off : Int), .int .u64 (val : Int), .bool false] 57)).trans (only4.below (B := w.heap.size) (by have := hBW2.size; simp; simp at this; omega) (fun k _ h => by have := hW2.ob k h; omega))
            have hfinal := hrel.out w4 sa cap' fa fc hfin hBf
            simp only [List.length_append, List.length_singleton] at hfinal
            replace hfinal := Lib.hid hfinal
            clear hrel hfin hBf hW2 hW own4 only4 fresh4 hBW2 cw cf
            go_wp2_with fail
            go_roundw
            case rel => exact ⟨k + 1, by omega, by go_num, hfinal.out⟩
            case measure => simp [intOf]; omega
          · have hst : refStep n S ⟨1, t, off, val, old, line, en, ch⟩ = S := by simp [refStep, hal]
            have d1 : ((off : Int) % 8 == 0) = false := by rw [beq_eq_false_iff_ne]; omega
            have i1 : ¬ (off : Int) % 8 = 0 := by omega
            rw [hst] at hrel
            clear hst
            have hfinal := fun m => hrel _ oa oc fa fc (hA.only ((Only.refl (fun _ => False) _).drewN m) (fun _ _ h => h)) (below_drewN hBA m)
            replace hfinal := Lib.hid hfinal
            replace hwl := Lib.hid hwl
            clear hrel hR hok hA hBA
            go_wp2_with fail
            go_quiet (fail)
            go_wp2_with fail
            go_quiet (fail)
            go_wp2_with fail
            (try simp only [World.drewN_drewN])
            go_roundw
            case rel => first | exact ⟨k + 1, by omega, by go_num, hfinal.out _⟩ | ((repeat apply Exists.intro); exact ⟨⟨k + 1, by omega, by go_num, hfinal.out _⟩, rfl⟩)
            case measure => simp [intOf]; omega
        · have hst : refStep n S ⟨1, t, off, val, old, line, en, ch⟩ = S := by simp [refStep, hin]
          have d2 : decide ((off : Int) < 64 * (n : Int)) = false := decide_eq_false (by omega)
          have i2 : ¬ (off : Int) < 64 * (n : Int) := by omega
          by_cases hal : off % 8 = 0
          · have d1 : ((off : Int) % 8 == 0) = true := by rw [beq_iff_eq]; omega
            have i1 : (off : Int) % 8 = 0 := by omega
            rw [hst] at hrel
            clear hst
            have hfinal := fun m => hrel _ oa oc fa fc (hA.only ((Only.refl (fun _ => False) _).drewN m) (fun _ _ h => h)) (below_drewN hBA m)
            replace hfinal := Lib.hid hfinal
            replace hwl := Lib.hid hwl
            clear hrel hR hok hA hBA
            go_wp2_with fail
            go_quiet (fail)
            go_wp2_with fail
            go_quiet (fail)
            go_wp2_with fail
            (try simp only [World.drewN_drewN])
            go_roundw
            case rel => first | exact ⟨k + 1, by omega, by go_num, hfinal.out _⟩ | ((repeat apply Exists.intro); exact ⟨⟨k + 1, by omega, by go_num, hfinal.out _⟩, rfl⟩)
            case measure => simp [intOf]; omega
          · have d1 : ((off : Int) % 8 == 0) = false := by rw [beq_eq_false_iff_ne]; omega
            have i1 : ¬ (off : Int) % 8 = 0 := by omega
            rw [hst] at hrel
            clear hst
            have hfinal := fun m => hrel _ oa oc fa fc (hA.only ((Only.refl (fun _ => False) _).drewN m) (fun _ _ h => h)) (below_drewN hBA m)
            replace hfinal := Lib.hid hfinal
            replace hwl := Lib.hid hwl
            clear hrel hR hok hA hBA
            go_wp2_with fail
            go_quiet (fail)
            go_wp2_with fail
            go_quiet (fail)
            go_wp2_with fail
            (try simp only [World.drewN_drewN])
            go_roundw
            case rel => first | exact ⟨k + 1, by omega, by go_num, hfinal.out _⟩ | ((repeat apply Exists.intro); exact ⟨⟨k + 1, by omega, by go_num, hfinal.out _⟩, rfl⟩)
            case measure => simp [intOf]; omega
      · -- a compare and swap
        obtain rfl : kv = 2 := by omega
        replace hkv := Lib.hid hkv
        by_cases hin : off < 64 * n
        · by_cases hal : off % 8 = 0
          · by_cases hm : S.words.getD (off / 8) 0 = old
            · have hst : refStep n S ⟨2, t, off, val, old, line, en, ch⟩ = ⟨S.words.set (off / 8) val, S.out ++ [⟨off / 64, off, val, false⟩], S.fl⟩ := by
                unfold refStep; rw [if_pos ⟨⟨hin, hal⟩, Or.inr ⟨rfl, hm⟩⟩]
              rw [hst] at hrel
              clear hst
              have i3 : (off : Int) / 8 < (m8 : Int) := by omega
              have i4 : (0 : Int) ≤ (off : Int) / 8 := by omega
              have cw := hA.wd.cell (o := off / 8) (u64s_get _ _ _ (get_of_lt 0 (by omega)))
              have cf := hA.wd.free (off / 8)
              rw [hm] at cw
              replace hm := Lib.hid hm
              have d1 : ((off : Int) % 8 == 0) = true := by rw [beq_iff_eq]; omega
              have i1 : (off : Int) % 8 = 0 := by omega
              have d2 : decide ((off : Int) < 64 * (n : Int)) = true := decide_eq_true (by omega)
              have i2 : (off : Int) < 64 * (n : Int) := by omega
              have hlt2 : w.heap.size < wr.heap.size := hR.wd.lt
              have hne1 : ¬ w.heap.size = wr.heap.size := by omega
              have hne2 : ¬ wr.heap.size = w.heap.size := by omega
              replace hrel := Lib.hid hrel
              replace hwl := Lib.hid hwl
              clear hR hok
              go_wp2_with fail
              go_quiet (fail)
              have hW := (hA.only ((Only.refl (fun _ => False) _).drewN nq) (fun _ _ h => h)).word (off / 8) val
              have hBW2 : Below w.heap.size w (((wr.alloc (.cells #[.int .i64 2, .int .i64 (t : Int), .int .u64 (off : Int), .int .u64 (val : Int), .int .u64 (old : Int), .int .i64 (line : Int), .int .i64 en, .int .i64 0] 67)).drewN nq).setCell ⟨w.heap.size, off / 8, none⟩ (.int .u64 (val : Int))) := (below_drewN hBA nq).trans (((Only.refl (fun k => k = w.heap.size) _).setCell (a := ⟨w.heap.size, off / 8, none⟩) (fun _ => rfl) (.int .u64 (val : Int))).below (B := w.heap.size) (by simp; omega) (by intro k _ e; omega))
              have hN : Has ((((wr.alloc (.cells #[.int .i64 2, .int .i64 (t : Int), .int .u64 (off : Int), .int .u64 (val : Int), .int .u64 (old : Int), .int .i64 (line : Int), .int .i64 en, .int .i64 0] 67)).drewN nq).setCell ⟨w.heap.size, off / 8, none⟩ (.int .u64 (val : Int))).alloc (.cells #[.int .i64 ((off : Int) / 64), .int .u64 (off : Int), .int .u64 (val : Int), .bool false] 57)) (wr.heap.size + 1) [.int .i64 ((off : Int) / 64), .int .u64 (off : Int), .int .u64 (val : Int), .bool false] 57 := by
                have := Has.new (((wr.alloc (.cells #[.int .i64 2, .int .i64 (t : Int), .int .u64 (off : Int), .int .u64 (val : Int), .int .u64 (old : Int), .int .i64 (line : Int), .int .i64 en, .int .i64 0] 67)).drewN nq).setCell ⟨w.heap.size, off / 8, none⟩ (.int .u64 (val : Int))) [.int .i64 ((off : Int) / 64), .int .u64 (off : Int), .int .u64 (val : Int), .bool false] 57
                have e : (((wr.alloc (.cells #[.int .i64 2, .int .i64 (t : Int), .int .u64 (off : Int), .int .u64 (val : Int), .int .u64 (old : Int), .int .i64 (line : Int), .int .i64 en, .int .i64 0] 67)).drewN nq).setCell ⟨w.heap.size, off / 8, none⟩ (.int .u64 (val : Int))).heap.size = wr.heap.size + 1 := by simp
                rw [e] at this
                exact this
              have hby : (S.out.length + 1) * 32 ≤ 140737488355328 := by omega
              have hO1 : ((((wr.alloc (.cells #[.int .i64 2, .int .i64 (t : Int), .int .u64 (off : Int), .int .u64 (val : Int), .int .u64 (old : Int), .int .i64 (line : Int), .int .i64 en, .int .i64 0] 67)).drewN nq).setCell ⟨w.heap.size, off / 8, none⟩ (.int .u64 (val : Int))).alloc (.cells #[.int .i64 ((off : Int) / 64), .int .u64 (off : Int), .int .u64 (val : Int), .bool false] 57)).ownsRow 0 57 4 (.slice oa S.out.length oc) S.out.length (sCells S.out) := hW.out.alloc (.cells #[.int .i64 ((off : Int) / 64), .int .u64 (off : Int), .int .u64 (val : Int), .bool false] 57)
              go_wp2_with (at_builtin; refine wpList_app rfl (.tmp 66) (.tmp 76) 25 rfl 57 (.agg #[.int .i64 0, .int .u64 0, .int .u64 0, .bool false]) 4 32 Try.underlying25 info57 rfl (by decide) (by decide) oa S.out.length oc (sCells S.out) hO1 rfl _ 1 1 [.int .i64 ((off : Int) / 64), .int .u64 (off : Int), .int .u64 (val : Int), .bool false] rfl rfl (by exact news_at hN) (by simp [Value.oneCell']) (by exact hby) ?_)
              intro sa cap' w4 own4 only4 fresh4
              have hW2 := hW.only ((Only.refl (fun _ => False) _).alloc (.cells #[.int .i64 ((off : Int) / 64), .int .u64 (off : Int), .int .u64 (val : Int), .bool false] 57)) (fun _ _ h => h)
              have hfin := RefSt.app_out (s := ⟨off / 64, off, val, false⟩) hW2 (by simpa [RSt.cells] using own4) only4 (by simpa using fresh4)
              have hBf := (hBW2.alloc hBW2.size (.cells #[.int .i64 ((off : Int) / 64), .int .u64 (off : Int), .int .u64 (val : Int), .bool false] 57)).trans (only4.below (B := w.heap.size) (by have := hBW2.size; simp; simp at this; omega) (fun k _ h => by have := hW2.ob k h; omega))
              have hfinal := hrel.out w4 sa cap' fa fc hfin hBf
              simp only [List.length_append, List.length_singleton] at hfinal
              replace hfinal := Lib.hid hfinal
              clear hrel hfin hBf hW2 hW own4 only4 fresh4 hBW2 cw cf hO1 hN hby hA hBA
              go_wp2_with fail
              go_roundw
              case rel => first | exact ⟨k + 1, by omega, by go_num, hfinal.out⟩ | ((repeat apply Exists.intro); exact ⟨⟨k + 1, by omega, by go_num, hfinal.out⟩, rfl⟩)
              case measure => simp [intOf]; omega
            · have hst : refStep n S ⟨2, t, off, val, old, line, en, ch⟩ = S := by
                unfold refStep
                rw [if_neg (by rintro ⟨_, h | ⟨_, h⟩⟩; cases h; exact hm h), if_neg (by rintro ⟨h, _⟩; cases h), if_neg (by intro h; cases h), if_neg (by rintro ⟨h, _⟩; cases h)]
              have i3 : (off : Int) / 8 < (m8 : Int) := by omega
              have i4 : (0 : Int) ≤ (off : Int) / 8 := by omega
              have cw := hA.wd.cell (o := off / 8) (u64s_get _ _ _ (get_of_lt 0 (by omega)))
              have d3 : (((S.words.getD (off / 8) 0 : Nat) : Int) == (old : Int)) = false := by rw [beq_eq_false_iff_ne]; omega
              generalize S.words.getD (off / 8) 0 = wv at *
              have i5 : ¬ (wv : Int) = (old : Int) := by omega
              have d1 : ((off : Int) % 8 == 0) = true := by rw [beq_iff_eq]; omega
              have i1 : (off : Int) % 8 = 0 := by omega
              have d2 : decide ((off : Int) < 64 * (n : Int)) = true := decide_eq_true (by omega)
              have i2 : (off : Int) < 64 * (n : Int) := by omega
              rw [hst] at hrel
              clear hst
              have hfinal := fun m => hrel _ oa oc fa fc (hA.only ((Only.refl (fun _ => False) _).drewN m) (fun _ _ h => h)) (below_drewN hBA m)
              replace hfinal := Lib.hid hfinal
              replace hwl := Lib.hid hwl
              clear hrel hR hok hA hBA
              go_wp2_with fail
              go_quiet (fail)
              go_wp2_with fail
              go_quiet (fail)
              go_wp2_with fail
              (try simp only [World.drewN_drewN])
              go_roundw
              case rel => first | exact ⟨k + 1, by omega, by go_num, hfinal.out _⟩ | ((repeat apply Exists.intro); exact ⟨⟨k + 1, by omega, by go_num, hfinal.out _⟩, rfl⟩)
              case measure => simp [intOf]; omega
          · have hst : refStep n S ⟨2, t, off, val, old, line, en, ch⟩ = S := by simp [refStep, hal]
            have d1 : ((off : Int) % 8 == 0) = false := by rw [beq_eq_false_iff_ne]; omega
            have i1 : ¬ (off : Int) % 8 = 0 := by omega
            rw [hst] at hrel
            clear hst
            have hfinal := fun m => hrel _ oa oc fa fc (hA.only ((Only.refl (fun _ => False) _).drewN m) (fun _ _ h => h)) (below_drewN hBA m)
            replace hfinal := Lib.hid hfinal
            replace hwl := Lib.hid hwl
            clear hrel hR hok hA hBA
            go_wp2_with fail
            go_quiet (fail)
            go_wp2_with fail
            go_quiet (fail)
            go_wp2_with fail
            (try simp only [World.drewN_drewN])
            go_roundw
            case rel => first | exact ⟨k + 1, by omega, by go_num, hfinal.out _⟩ | ((repeat apply Exists.intro); exact ⟨⟨k + 1, by omega, by go_num, hfinal.out _⟩, rfl⟩)
            case measure => simp [intOf]; omega
        · have hst : refStep n S ⟨2, t, off, val, old, line, en, ch⟩ = S := by simp [refStep, hin]
          have d2 : decide ((off : Int) < 64 * (n : Int)) = false := decide_eq_false (by omega)
          have i2 : ¬ (off : Int) < 64 * (n : Int) := by omega
          by_cases hal : off % 8 = 0
          · have d1 : ((off : Int) % 8 == 0) = true := by rw [beq_iff_eq]; omega
            have i1 : (off : Int) % 8 = 0 := by omega
            rw [hst] at hrel
            clear hst
            have hfinal := fun m => hrel _ oa oc fa fc (hA.only ((Only.refl (fun _ => False) _).drewN m) (fun _ _ h => h)) (below_drewN hBA m)
            replace hfinal := Lib.hid hfinal
            replace hwl := Lib.hid hwl
            clear hrel hR hok hA hBA
            go_wp2_with fail
            go_quiet (fail)
            go_wp2_with fail
            go_quiet (fail)
            go_wp2_with fail
            (try simp only [World.drewN_drewN])
            go_roundw
            case rel => first | exact ⟨k + 1, by omega, by go_num, hfinal.out _⟩ | ((repeat apply Exists.intro); exact ⟨⟨k + 1, by omega, by go_num, hfinal.out _⟩, rfl⟩)
            case measure => simp [intOf]; omega
          · have d1 : ((off : Int) % 8 == 0) = false := by rw [beq_eq_false_iff_ne]; omega
            have i1 : ¬ (off : Int) % 8 = 0 := by omega
            rw [hst] at hrel
            clear hst
            have hfinal := fun m => hrel _ oa oc fa fc (hA.only ((Only.refl (fun _ => False) _).drewN m) (fun _ _ h => h)) (below_drewN hBA m)
            replace hfinal := Lib.hid hfinal
            replace hwl := Lib.hid hwl
            clear hrel hR hok hA hBA
            go_wp2_with fail
            go_quiet (fail)
            go_wp2_with fail
            go_quiet (fail)
            go_wp2_with fail
            (try simp only [World.drewN_drewN])
            go_roundw
            case rel => first | exact ⟨k + 1, by omega, by go_num, hfinal.out _⟩ | ((repeat apply Exists.intro); exact ⟨⟨k + 1, by omega, by go_num, hfinal.out _⟩, rfl⟩)
            case measure => simp [intOf]; omega
      · -- a flush
        obtain rfl : kv = 3 := by omega
        replace hkv := Lib.hid hkv
        by_cases hin : off < 64 * n
        · have hst : refStep n S ⟨3, t, off, val, old, line, en, ch⟩ = ⟨S.words, S.out, S.fl ++ [(t, off / 64, S.out.length)]⟩ := by
            unfold refStep; rw [if_neg (by rintro ⟨_, h | ⟨h, _⟩⟩ <;> cases h), if_pos ⟨rfl, hin⟩]
          rw [hst] at hrel
          clear hst
          have d2 : decide ((off : Int) < 64 * (n : Int)) = true := decide_eq_true (by omega)
          have i2 : (off : Int) < 64 * (n : Int) := by omega
          by_cases hal : off % 8 = 0
          · have d1 : ((off : Int) % 8 == 0) = true := by rw [beq_iff_eq]; omega
            have i1 : (off : Int) % 8 = 0 := by omega
            have hBW2 := hBA
            clear hBA
            replace hrel := Lib.hid hrel
            replace hwl := Lib.hid hwl
            clear hR hok
            go_wp2_with fail
            go_quiet (fail)
            have hN : Has ((wr.alloc (.cells #[.int .i64 3, .int .i64 (t : Int), .int .u64 (off : Int), .int .u64 (val : Int), .int .u64 (old : Int), .int .i64 (line : Int), .int .i64 en, .int .i64 0] 67)).alloc (.cells #[.int .i64 (t : Int), .int .i64 ((off : Int) / 64), .int .i64 (S.out.length : Int)] 131) |>.drewN nq) (wr.heap.size + 1) [.int .i64 (t : Int), .int .i64 ((off : Int) / 64), .int .i64 (S.out.length : Int)] 131 := by
              have := Has.new (wr.alloc (.cells #[.int .i64 3, .int .i64 (t : Int), .int .u64 (off : Int), .int .u64 (val : Int), .int .u64 (old : Int), .int .i64 (line : Int), .int .i64 en, .int .i64 0] 67)) [.int .i64 (t : Int), .int .i64 ((off : Int) / 64), .int .i64 (S.out.length : Int)] 131
              have e : (wr.alloc (.cells #[.int .i64 3, .int .i64 (t : Int), .int .u64 (off : Int), .int .u64 (val : Int), .int .u64 (old : Int), .int .i64 (line : Int), .int .i64 en, .int .i64 0] 67)).heap.size = wr.heap.size + 1 := by simp
              rw [e] at this
              exact this
            have hby : (S.fl.length + 1) * 24 ≤ 140737488355328 := by omega
            have hO1 : ((wr.alloc (.cells #[.int .i64 3, .int .i64 (t : Int), .int .u64 (off : Int), .int .u64 (val : Int), .int .u64 (old : Int), .int .i64 (line : Int), .int .i64 en, .int .i64 0] 67)).alloc (.cells #[.int .i64 (t : Int), .int .i64 ((off : Int) / 64), .int .i64 (S.out.length : Int)] 131) |>.drewN nq).ownsRow 0 131 3 (.slice fa S.fl.length fc) S.fl.length (fCells S.fl) := hA.fl.alloc (.cells #[.int .i64 (t : Int), .int .i64 ((off : Int) / 64), .int .i64 (S.out.length : Int)] 131)
            go_wp2_with (at_builtin; refine wpList_app rfl (.tmp 90) (.tmp 100) 129 rfl 131 (.agg #[.int .i64 0, .int .i64 0, .int .i64 0]) 3 24 Try.underlying129 info131 rfl (by decide) (by decide) fa S.fl.length fc (fCells S.fl) hO1 rfl _ 1 1 [.int .i64 (t : Int), .int .i64 ((off : Int) / 64), .int .i64 (S.out.length : Int)] rfl rfl (by exact news_at hN) (by simp [Value.oneCell']) (by exact hby) ?_)
            intro sa cap' w4 own4 only4 fresh4
            have hW2 := hA.only (((Only.refl (fun _ => False) _).alloc (.cells #[.int .i64 (t : Int), .int .i64 ((off : Int) / 64), .int .i64 (S.out.length : Int)] 131)).drewN nq) (fun _ _ h => h)
            have hfin := RefSt.app_fl (f := (t, off / 64, S.out.length)) hW2 (by simpa [fCell] using own4) only4 (by simpa using fresh4)
            have hBf := (below_drewN (hBW2.alloc hBW2.size (.cells #[.int .i64 (t : Int), .int .i64 ((off : Int) / 64), .int .i64 (S.out.length : Int)] 131)) nq).trans (only4.below (B := w.heap.size) (by have := hBW2.size; simp; simp at this; omega) (fun k _ h => by have := hW2.fb k h; omega))
            have hfinal := hrel.out w4 oa oc sa cap' hfin hBf
            simp only [List.length_append, List.length_singleton] at hfinal
            replace hfinal := Lib.hid hfinal
            clear hrel hfin hBf hW2 hA own4 only4 fresh4 hBW2 hO1 hN hby
            go_wp2_with fail
            go_roundw
            case rel => first | exact ⟨k + 1, by omega, by go_num, hfinal.out⟩ | ((repeat apply Exists.intro); exact ⟨⟨k + 1, by omega, by go_num, hfinal.out⟩, rfl⟩)
            case measure => simp [intOf]; omega
          · have d1 : ((off : Int) % 8 == 0) = false := by rw [beq_eq_false_iff_ne]; omega
            have i1 : ¬ (off : Int) % 8 = 0 := by omega
            have hBW2 := hBA
            clear hBA
            replace hrel := Lib.hid hrel
            replace hwl := Lib.hid hwl
            clear hR hok
            go_wp2_with fail
            go_quiet (fail)
            have hN : Has ((wr.alloc (.cells #[.int .i64 3, .int .i64 (t : Int), .int .u64 (off : Int), .int .u64 (val : Int), .int .u64 (old : Int), .int .i64 (line : Int), .int .i64 en, .int .i64 0] 67)).alloc (.cells #[.int .i64 (t : Int), .int .i64 ((off : Int) / 64), .int .i64 (S.out.length : Int)] 131) |>.drewN nq) (wr.heap.size + 1) [.int .i64 (t : Int), .int .i64 ((off : Int) / 64), .int .i64 (S.out.length : Int)] 131 := by
              have := Has.new (wr.alloc (.cells #[.int .i64 3, .int .i64 (t : Int), .int .u64 (off : Int), .int .u64 (val : Int), .int .u64 (old : Int), .int .i64 (line : Int), .int .i64 en, .int .i64 0] 67)) [.int .i64 (t : Int), .int .i64 ((off : Int) / 64), .int .i64 (S.out.length : Int)] 131
              have e : (wr.alloc (.cells #[.int .i64 3, .int .i64 (t : Int), .int .u64 (off : Int), .int .u64 (val : Int), .int .u64 (old : Int), .int .i64 (line : Int), .int .i64 en, .int .i64 0] 67)).heap.size = wr.heap.size + 1 := by simp
              rw [e] at this
              exact this
            have hby : (S.fl.length + 1) * 24 ≤ 140737488355328 := by omega
            have hO1 : ((wr.alloc (.cells #[.int .i64 3, .int .i64 (t : Int), .int .u64 (off : Int), .int .u64 (val : Int), .int .u64 (old : Int), .int .i64 (line : Int), .int .i64 en, .int .i64 0] 67)).alloc (.cells #[.int .i64 (t : Int), .int .i64 ((off : Int) / 64), .int .i64 (S.out.length : Int)] 131) |>.drewN nq).ownsRow 0 131 3 (.slice fa S.fl.length fc) S.fl.length (fCells S.fl) := hA.fl.alloc (.cells #[.int .i64 (t : Int), .int .i64 ((off : Int) / 64), .int .i64 (S.out.length : Int)] 131)
            go_wp2_with (at_builtin; refine wpList_app rfl (.tmp 90) (.tmp 100) 129 rfl 131 (.agg #[.int .i64 0, .int .i64 0, .int .i64 0]) 3 24 Try.underlying129 info131 rfl (by decide) (by decide) fa S.fl.length fc (fCells S.fl) hO1 rfl _ 1 1 [.int .i64 (t : Int), .int .i64 ((off : Int) / 64), .int .i64 (S.out.length : Int)] rfl rfl (by exact news_at hN) (by simp [Value.oneCell']) (by exact hby) ?_)
            intro sa cap' w4 own4 only4 fresh4
            have hW2 := hA.only (((Only.refl (fun _ => False) _).alloc (.cells #[.int .i64 (t : Int), .int .i64 ((off : Int) / 64), .int .i64 (S.out.length : Int)] 131)).drewN nq) (fun _ _ h => h)
            have hfin := RefSt.app_fl (f := (t, off / 64, S.out.length)) hW2 (by simpa [fCell] using own4) only4 (by simpa using fresh4)
            have hBf := (below_drewN (hBW2.alloc hBW2.size (.cells #[.int .i64 (t : Int), .int .i64 ((off : Int) / 64), .int .i64 (S.out.length : Int)] 131)) nq).trans (only4.below (B := w.heap.size) (by have := hBW2.size; simp; simp at this; omega) (fun k _ h => by have := hW2.fb k h; omega))
            have hfinal := hrel.out w4 oa oc sa cap' hfin hBf
            simp only [List.length_append, List.length_singleton] at hfinal
            replace hfinal := Lib.hid hfinal
            clear hrel hfin hBf hW2 hA own4 only4 fresh4 hBW2 hO1 hN hby
            go_wp2_with fail
            go_roundw
            case rel => first | exact ⟨k + 1, by omega, by go_num, hfinal.out⟩ | ((repeat apply Exists.intro); exact ⟨⟨k + 1, by omega, by go_num, hfinal.out⟩, rfl⟩)
            case measure => simp [intOf]; omega
        · have hst : refStep n S ⟨3, t, off, val, old, line, en, ch⟩ = S := by simp [refStep, hin]
          have d2 : decide ((off : Int) < 64 * (n : Int)) = false := decide_eq_false (by omega)
          have i2 : ¬ (off : Int) < 64 * (n : Int) := by omega
          by_cases hal : off % 8 = 0
          · have d1 : ((off : Int) % 8 == 0) = true := by rw [beq_iff_eq]; omega
            have i1 : (off : Int) % 8 = 0 := by omega
            rw [hst] at hrel
            clear hst
            have hfinal := fun m => hrel _ oa oc fa fc (hA.only ((Only.refl (fun _ => False) _).drewN m) (fun _ _ h => h)) (below_drewN hBA m)
            replace hfinal := Lib.hid hfinal
            replace hwl := Lib.hid hwl
            clear hrel hR hok hA hBA
            go_wp2_with fail
            go_quiet (fail)
            go_wp2_with fail
            go_quiet (fail)
            go_wp2_with fail
            (try simp only [World.drewN_drewN])
            go_roundw
            case rel => first | exact ⟨k + 1, by omega, by go_num, hfinal.out _⟩ | ((repeat apply Exists.intro); exact ⟨⟨k + 1, by omega, by go_num, hfinal.out _⟩, rfl⟩)
            case measure => simp [intOf]; omega
          · have d1 : ((off : Int) % 8 == 0) = false := by rw [beq_eq_false_iff_ne]; omega
            have i1 : ¬ (off : Int) % 8 = 0 := by omega
            rw [hst] at hrel
            clear hst
            have hfinal := fun m => hrel _ oa oc fa fc (hA.only ((Only.refl (fun _ => False) _).drewN m) (fun _ _ h => h)) (below_drewN hBA m)
            replace hfinal := Lib.hid hfinal
            replace hwl := Lib.hid hwl
            clear hrel hR hok hA hBA
            go_wp2_with fail
            go_quiet (fail)
            go_wp2_with fail
            go_quiet (fail)
            go_wp2_with fail
            (try simp only [World.drewN_drewN])
            go_roundw
            case rel => first | exact ⟨k + 1, by omega, by go_num, hfinal.out _⟩ | ((repeat apply Exists.intro); exact ⟨⟨k + 1, by omega, by go_num, hfinal.out _⟩, rfl⟩)
            case measure => simp [intOf]; omega
      · -- a fence
        obtain rfl : kv = 4 := by omega
        replace hkv := Lib.hid hkv
        have hoff : off = 0 := hgz (by decide)
        have d1 : ((off : Int) % 8 == 0) = true := by rw [beq_iff_eq]; omega
        have i1 : (off : Int) % 8 = 0 := by omega
        have d2 : decide ((off : Int) < 64 * (n : Int)) = true := decide_eq_true (by omega)
        have i2 : (off : Int) < 64 * (n : Int) := by omega
        replace hoff := Lib.hid hoff
        clear hgz
        have hst : refStep n S ⟨4, t, off, val, old, line, en, ch⟩ = ⟨S.words, fenceO t S.out S.fl, S.fl.filter fun f => decide (f.1 ≠ t)⟩ := by
          unfold refStep; rw [if_neg (by rintro ⟨_, h | ⟨h, _⟩⟩ <;> cases h), if_neg (by rintro ⟨h, _⟩; cases h), if_pos rfl]
        rw [hst] at hrel
        clear hst
        have hI0 : InR w wr oa oc fa fc S (fenceO t S.out (S.fl.take 0)) none 0 (leftL t S.fl 0) [.int .i64 4, .int .i64 (t : Int), .int .u64 (off : Int), .int .u64 (val : Int), .int .u64 (old : Int), .int .i64 (line : Int), .int .i64 en, .int .i64 0] (wr.alloc (.cells #[.int .i64 4, .int .i64 (t : Int), .int .u64 (off : Int), .int .u64 (val : Int), .int .u64 (old : Int), .int .i64 (line : Int), .int .i64 en, .int .i64 0] 67)) :=
          ⟨hA, World.ownsRow_nil _ _ _ _, (by rintro k hk; cases hk), hE, hBA⟩
        have hol := fun k (hk : Value.ownBlock (.slice oa S.out.length oc) = some k) => ownsRow_lt hR.out hk
        have hfl2 := fun k (hk : Value.ownBlock (.slice fa S.fl.length fc) = some k) => ownsRow_lt hR.fl hk
        replace hrel := Lib.hid hrel
        replace hwl := Lib.hid hwl
        have hfbk := hok.fb
        replace hfbk := Lib.hid hfbk
        replace hI0 := Lib.hid hI0
        replace hol := Lib.hid hol
        replace hfl2 := Lib.hid hfl2
        have e0 := hE.cell (o := 0) rfl
        have e1 := hE.cell (o := 1) rfl
        have e2 := hE.cell (o := 2) rfl
        clear hA hR hok hE hBA
        go_wp2_with fail
        go_quiet (fail)
        go_wp2_with fail
        have hI1 := hI0.out.only0 (((Only.refl (fun _ => False) _).drewN nq))
        obtain ⟨wo, hwo⟩ : ∃ wo, wo = (wr.alloc (.cells #[.int .i64 4, .int .i64 (t : Int), .int .u64 (off : Int), .int .u64 (val : Int), .int .u64 (old : Int), .int .i64 (line : Int), .int .i64 en, .int .i64 0] 67)).drewN nq := ⟨_, rfl⟩
        rw [← hwo] at hI1 ⊢
        replace hwo := Lib.hid hwo
        replace hI1 := Lib.hid hI1
        clear e0 e1 e2 hI0
        obtain ⟨wp, rfl⟩ : ∃ wp : World, wp = wr := ⟨_, rfl⟩
        go_loopw [11, 108] (fun v i wq => ∃ (j : Nat) (la : Option Addr) (lc : Nat), j ≤ S.fl.length ∧ i = .int .i64 j ∧ v = .slice la (leftL t S.fl j).length lc ∧ InR w wp oa oc fa fc S (fenceO t S.out (S.fl.take j)) la lc (leftL t S.fl j) [.int .i64 4, .int .i64 (t : Int), .int .u64 (off : Int), .int .u64 (val : Int), .int .u64 (old : Int), .int .i64 (line : Int), .int .i64 en, .int .i64 0] wq) (fun _ i _ => S.fl.length - (intOf i).toNat)
        case atStart => exact ⟨0, none, 0, Nat.zero_le _, rfl, rfl, hI1.out⟩
        case round =>
          clear hI1
          obtain ⟨j, la, lc, hj, rfl, rfl, hI⟩ := hrel
          have hN := fenceO_length t S.out (S.fl.take j)
          have hll := leftL_le t S.fl j
          by_cases hlt3 : j < S.fl.length
          · have hjI : (j : Int) < S.fl.length := by omega
            have hatf := get_of_lt (0, 0, 0) hlt3
            obtain ⟨fb1, fb2⟩ := hfbk.out _ (List.mem_of_getElem? hatf)
            have l1 := leftL_hit t S.fl j hlt3
            have l2 := leftL_miss t S.fl j hlt3
            have o1 := fenceO_hit t S.out S.fl j hlt3
            have o2 := fenceO_miss t S.out S.fl j hlt3
            generalize S.fl.getD j (0, 0, 0) = f at *
            obtain ⟨g, rfl⟩ : ∃ g, fa = some ⟨g, 0, none⟩ := by
              rcases hI.r.fl.2 with h2 | ⟨g, _, _, hv, _⟩
              · have := h2.2; simp only at this; omega
              · simp only [Value.slice.injEq] at hv; exact ⟨g, hv.1⟩
            have c0 : wr.cell? ⟨g, j * 3, none⟩ = _ := ownsRow_get hI.r.fl (fCells_get _ j _ hatf 0 _ rfl)
            have c1 : wr.cell? ⟨g, j * 3 + 1, none⟩ = _ := ownsRow_get hI.r.fl (fCells_get _ j _ hatf 1 _ rfl)
            have c2 : wr.cell? ⟨g, j * 3 + 2, none⟩ = _ := ownsRow_get hI.r.fl (fCells_get _ j _ hatf 2 _ rfl)
            have hIA := hI.only0 ((Only.refl (fun _ => False) wr).alloc (.cells #[.int .i64 (f.1 : Int), .int .i64 (f.2.1 : Int), .int .i64 (f.2.2 : Int)] 131))
            have e1 := hI.e.cell (o := 1) rfl
            have hlt9 := hI.e.lt
            replace hatf := Lib.hid hatf
            by_cases hft2 : f.1 = t
            · have d5 : ((f.1 : Int) == (t : Int)) = true := by rw [beq_iff_eq]; omega
              have l1 := l1 hft2
              have o1 := o1 hft2
              have hmark := mark_at oa oc S.out.length (fenceO t S.out (S.fl.take j)) f.2.1 f.2.2 S.out.length hN (wr.alloc (.cells #[.int .i64 (f.1 : Int), .int .i64 (f.2.1 : Int), .int .i64 (f.2.2 : Int)] 131)) (by have := hIA.r.out; exact this) (by omega) fb2 (by omega)
              have hmk2 := fun w9 hS9 hO9 => InR.mark (wq2 := w9) hIA (out' := mkP (fenceO t S.out (S.fl.take j)) f.2.1 f.2.2 S.out.length) hS9 (mkP_length _ _ _ _) hN hO9 hol.out
              rw [← o1, ← l1] at hmk2
              rw [← o1] at hmark
              replace hmark := Lib.hid hmark
              replace hmk2 := Lib.hid hmk2
              replace hN := Lib.hid hN
              have hl1 := Lib.hid l1
              replace hft2 := Lib.hid hft2
              clear l1 l2 o1 o2 hI hIA
              go_wp2_with fail
              refine hmark.out.mono ?_
              rintro e' w9 ⟨rfl, hS9, hO9⟩
              have hI9 := hmk2.out w9 hS9 hO9
              replace hI9 := Lib.hid hI9
              clear hmark hmk2 hS9 hO9 c0 c1 c2 e1
              go_wp2_with fail
              go_roundw
              case rel => first | exact ⟨j + 1, la, lc, by omega, by go_num, by rw [hl1.out], hI9.out⟩ | ((repeat apply Exists.intro); exact ⟨⟨j + 1, la, lc, by omega, by go_num, by rw [hl1.out], hI9.out⟩, rfl⟩)
              case measure => simp [intOf]; omega
            · have d5 : ((f.1 : Int) == (t : Int)) = false := by rw [beq_eq_false_iff_ne]; omega
              have l2 := l2 hft2
              have o2 := o2 hft2
              have hIB := hIA.only0 ((Only.refl (fun _ => False) (wr.alloc (.cells #[.int .i64 (f.1 : Int), .int .i64 (f.2.1 : Int), .int .i64 (f.2.2 : Int)] 131))).alloc (.cells #[.int .i64 (f.1 : Int), .int .i64 (f.2.1 : Int), .int .i64 (f.2.2 : Int)] 131))
              have hN9 : Has ((wr.alloc (.cells #[.int .i64 (f.1 : Int), .int .i64 (f.2.1 : Int), .int .i64 (f.2.2 : Int)] 131)).alloc (.cells #[.int .i64 (f.1 : Int), .int .i64 (f.2.1 : Int), .int .i64 (f.2.2 : Int)] 131)) (wr.heap.size + 1) [.int .i64 (f.1 : Int), .int .i64 (f.2.1 : Int), .int .i64 (f.2.2 : Int)] 131 := by
                have := Has.new (wr.alloc (.cells #[.int .i64 (f.1 : Int), .int .i64 (f.2.1 : Int), .int .i64 (f.2.2 : Int)] 131)) [.int .i64 (f.1 : Int), .int .i64 (f.2.1 : Int), .int .i64 (f.2.2 : Int)] 131
                have e : (wr.alloc (.cells #[.int .i64 (f.1 : Int), .int .i64 (f.2.1 : Int), .int .i64 (f.2.2 : Int)] 131)).heap.size = wr.heap.size + 1 := by simp
                rw [e] at this
                exact this
              have hby : ((leftL t S.fl j).length + 1) * 24 ≤ 140737488355328 := by omega
              have d6 : ¬ (f.1 : Int) = (t : Int) := by omega
              replace hft2 := Lib.hid hft2
              replace o2 := Lib.hid o2
              replace hN := Lib.hid hN
              replace l2 := Lib.hid l2
              replace hIB := Lib.hid hIB
              clear l1 o1 hI hIA
              go_wp2_with (at_builtin; refine wpList_app rfl (.tmp 125) (.tmp 127) 129 rfl 131 (.agg #[.int .i64 0, .int .i64 0, .int .i64 0]) 3 24 Try.underlying129 info131 rfl (by decide) (by decide) la (leftL t S.fl j).length lc (fCells (leftL t S.fl j)) (by exact hIB.out.l) rfl _ 1 1 [.int .i64 (f.1 : Int), .int .i64 (f.2.1 : Int), .int .i64 (f.2.2 : Int)] rfl rfl (by exact news_at hN9) (by simp [Value.oneCell']) (by exact hby) ?_)
              intro la' lc' w9 own9 only9 fresh9
              have hI9 := InR.app hIB.out (f := f) own9 only9 (by simpa using fresh9) hN.out hol.out hfl2.out (by omega)
              rw [← l2.out, ← o2.out] at hI9
              replace hI9 := Lib.hid hI9
              have hl9 : (leftL t S.fl (j + 1)).length = (leftL t S.fl j).length + 1 := by rw [l2.out]; simp
              replace hl9 := Lib.hid hl9
              clear hIB own9 only9 fresh9 c0 c1 c2 e1 hN9 hby
              go_wp2_with fail
              go_roundw
              case rel => first | exact ⟨j + 1, la', lc', by omega, by go_num, by rw [hl9.out], hI9.out⟩ | ((repeat apply Exists.intro); exact ⟨⟨j + 1, la', lc', by omega, by go_num, by rw [hl9.out], hI9.out⟩, rfl⟩)
              case measure => simp [intOf]; omega
          · obtain rfl : j = S.fl.length := by omega
            rw [leftL_all, List.take_of_length_le (Nat.le_refl _)] at hI
            rw [List.take_of_length_le (Nat.le_refl _)] at hN
            have hdone := hrel.out _ oa oc la lc (hI.done hN hol.out (by omega)) hI.b
            simp only [hN] at hdone
            rw [leftL_all]
            replace hdone := Lib.hid hdone
            have e0 := hI.e.cell (o := 0) rfl
            replace hN := Lib.hid hN
            clear hI
            go_wp2_with fail
            go_roundw
            case rel => first | exact ⟨k + 1, by omega, by go_num, hdone.out⟩ | ((repeat apply Exists.intro); exact ⟨⟨k + 1, by omega, by go_num, hdone.out⟩, rfl⟩)
            case measure => simp [intOf]; omega
      · -- a write back
        obtain rfl : kv = 5 := by omega
        replace hkv := Lib.hid hkv
        have hoff : off = 0 := hgz (by decide)
        have d1 : ((off : Int) % 8 == 0) = true := by rw [beq_iff_eq]; omega
        have i1 : (off : Int) % 8 = 0 := by omega
        have d2 : decide ((off : Int) < 64 * (n : Int)) = true := decide_eq_true (by omega)
        have i2 : (off : Int) < 64 * (n : Int) := by omega
        replace hoff := Lib.hid hoff
        clear hgz
        obtain ⟨m, rfl⟩ := Int.eq_ofNat_of_zero_le (hfn rfl)
        have hrd : ∀ w', Below wr.heap.size wr w' → Rd w' (.slice oa S.out.length oc) S.out.length (sCells S.out) := fun w' h => (Rd.of_own hR.out).kept h
        have hll := looseP_le S.out line
        have e0 := hE.cell (o := 0) rfl
        have e5 := hE.cell (o := 5) rfl
        have e6 := hE.cell (o := 6) rfl
        have hlc : ∀ w', Below (wr.heap.size + 1) (wr.alloc (.cells #[.int .i64 5, .int .i64 (t : Int), .int .u64 (off : Int), .int .u64 (val : Int), .int .u64 (old : Int), .int .i64 (line : Int), .int .i64 (m : Int), .int .i64 0] 67)) w' → Calls Try.prog 48 #[.slice oa S.out.length oc, .int .i64 (line : Int)] w' fun e w'' => e = .returned (.int .i64 ((looseP S.out line : Nat) : Int)) ∧
            w''.cell? ⟨wr.heap.size, 0, none⟩ = some (.int .i64 5) ∧ w''.cell? ⟨wr.heap.size, 5, none⟩ = some (.int .i64 (line : Int)) ∧ w''.cell? ⟨wr.heap.size, 6, none⟩ = some (.int .i64 (m : Int)) ∧ Below (wr.heap.size + 1) (wr.alloc (.cells #[.int .i64 5, .int .i64 (t : Int), .int .u64 (off : Int), .int .u64 (val : Int), .int .u64 (old : Int), .int .i64 (line : Int), .int .i64 (m : Int), .int .i64 0] 67)) w'' := by
          intro w' hw'
          have h0 : Below wr.heap.size wr (wr.alloc (.cells #[.int .i64 5, .int .i64 (t : Int), .int .u64 (off : Int), .int .u64 (val : Int), .int .u64 (old : Int), .int .i64 (line : Int), .int .i64 (m : Int), .int .i64 0] 67)) := (Below.refl _ _).alloc (Nat.le_refl _) _
          have hs := hw'.size
          simp only [World.size_alloc] at hs
          refine (loose_any oa oc S.out line w' (hrd w' (h0.trans (hw'.mono (by omega)))) (by omega)).mono ?_
          rintro e w'' ⟨he, hb⟩
          have hb2 : Below (wr.heap.size + 1) (wr.alloc (.cells #[.int .i64 5, .int .i64 (t : Int), .int .u64 (off : Int), .int .u64 (val : Int), .int .u64 (old : Int), .int .i64 (line : Int), .int .i64 (m : Int), .int .i64 0] 67)) w'' := hw'.trans (hb.mono hs)
          have hE2 := hE.only (Only.of_below hb2) (by omega)
          exact ⟨he, hE2.cell rfl, hE2.cell rfl, hE2.cell rfl, hb2⟩
        have hdr : ∀ w', Below (wr.heap.size + 1) (wr.alloc (.cells #[.int .i64 5, .int .i64 (t : Int), .int .u64 (off : Int), .int .u64 (val : Int), .int .u64 (old : Int), .int .i64 (line : Int), .int .i64 (m : Int), .int .i64 0] 67)) w' → Below (wr.heap.size + 1) (wr.alloc (.cells #[.int .i64 5, .int .i64 (t : Int), .int .u64 (off : Int), .int .u64 (val : Int), .int .u64 (old : Int), .int .i64 (line : Int), .int .i64 (m : Int), .int .i64 0] 67)) w'.drew := fun w' h => below_drewN h 1
        have hb0 : Below (wr.heap.size + 1) (wr.alloc (.cells #[.int .i64 5, .int .i64 (t : Int), .int .u64 (off : Int), .int .u64 (val : Int), .int .u64 (old : Int), .int .i64 (line : Int), .int .i64 (m : Int), .int .i64 0] 67)) (wr.alloc (.cells #[.int .i64 5, .int .i64 (t : Int), .int .u64 (off : Int), .int .u64 (val : Int), .int .u64 (old : Int), .int .i64 (line : Int), .int .i64 (m : Int), .int .i64 0] 67)) := Below.refl _ _
        have hb0n := fun m => below_drewN hb0 m
        have hfin : ∀ w', Below (wr.heap.size + 1) (wr.alloc (.cells #[.int .i64 5, .int .i64 (t : Int), .int .u64 (off : Int), .int .u64 (val : Int), .int .u64 (old : Int), .int .i64 (line : Int), .int .i64 (m : Int), .int .i64 0] 67)) w' → RefSt w' w.heap.size oa oc fa fc S ∧ Below w.heap.size w w' := by
          intro w' h
          have h0 : Below wr.heap.size wr (wr.alloc (.cells #[.int .i64 5, .int .i64 (t : Int), .int .u64 (off : Int), .int .u64 (val : Int), .int .u64 (old : Int), .int .i64 (line : Int), .int .i64 (m : Int), .int .i64 0] 67)) := (Below.refl _ _).alloc (Nat.le_refl _) _
          have h1 := h0.trans (h.mono (by omega))
          exact ⟨hR.below h1, hB.trans (h1.mono hBs)⟩
        replace hrd := Lib.hid hrd
        replace hlc := Lib.hid hlc
        replace hdr := Lib.hid hdr
        replace hfin := Lib.hid hfin
        replace hb0n := Lib.hid hb0n
        replace hwl := Lib.hid hwl
        by_cases hle : m ≤ looseP S.out line
        · have hst : refStep n S ⟨5, t, off, val, old, line, (m : Int), ch⟩ = ⟨S.words, mkP S.out line S.out.length m, S.fl⟩ := by
            unfold refStep; rw [if_neg (by rintro ⟨_, h | ⟨h, _⟩⟩ <;> cases h), if_neg (by rintro ⟨h, _⟩; cases h), if_neg (by intro h; cases h), if_pos ⟨rfl, by show (m : Int) ≤ ((looseP S.out line : Nat) : Int); omega⟩]; rfl
          rw [hst] at hrel
          clear hst hb0 hA hR hok hE hBA
          replace hrel := Lib.hid hrel
          generalize looseP S.out line = lo at *
          have d7 : decide ((m : Int) ≤ (lo : Int)) = true := decide_eq_true (by omega)
          have hleI : (m : Int) ≤ (lo : Int) := by omega
          replace hle := Lib.hid hle
          go_wp2_with fail
          go_quiet (fail)
          go_wp2_with fail
          have b0 := hb0n.out nq
          have x0 : ((wr.alloc (.cells #[.int .i64 5, .int .i64 (t : Int), .int .u64 (off : Int), .int .u64 (val : Int), .int .u64 (old : Int), .int .i64 (line : Int), .int .i64 (m : Int), .int .i64 0] 67)).drewN nq).cell? ⟨wr.heap.size, 0, none⟩ = some (.int .i64 5) := e0
          have x5 : ((wr.alloc (.cells #[.int .i64 5, .int .i64 (t : Int), .int .u64 (off : Int), .int .u64 (val : Int), .int .u64 (old : Int), .int .i64 (line : Int), .int .i64 (m : Int), .int .i64 0] 67)).drewN nq).cell? ⟨wr.heap.size, 5, none⟩ = some (.int .i64 (line : Int)) := e5
          have x6 : ((wr.alloc (.cells #[.int .i64 5, .int .i64 (t : Int), .int .u64 (off : Int), .int .u64 (val : Int), .int .u64 (old : Int), .int .i64 (line : Int), .int .i64 (m : Int), .int .i64 0] 67)).drewN nq).cell? ⟨wr.heap.size, 6, none⟩ = some (.int .i64 (m : Int)) := e6
          generalize hwz : (wr.alloc (.cells #[.int .i64 5, .int .i64 (t : Int), .int .u64 (off : Int), .int .u64 (val : Int), .int .u64 (old : Int), .int .i64 (line : Int), .int .i64 (m : Int), .int .i64 0] 67)).drewN nq = wz at *
          replace hwz := Lib.hid hwz
          have b1 := hdr.out _ b0
          go_region_held3 (fun w' => w'.cell? ⟨wr.heap.size, 0, none⟩ = some (.int .i64 5) ∧ w'.cell? ⟨wr.heap.size, 5, none⟩ = some (.int .i64 (line : Int)) ∧ w'.cell? ⟨wr.heap.size, 6, none⟩ = some (.int .i64 (m : Int)) ∧ Below (wr.heap.size + 1) (wr.alloc (.cells #[.int .i64 5, .int .i64 (t : Int), .int .u64 (off : Int), .int .u64 (val : Int), .int .u64 (old : Int), .int .i64 (line : Int), .int .i64 (m : Int), .int .i64 0] 67)) w') (first | go_keep | (refine ⟨?_, ?_, ?_, ?_⟩; all_goals first | go_keep | (exact hdr.out _ (by assumption))))
            ((go_at_call 48; refine (hlc.out _ (by assumption)).mono ?_; rintro e' w9 ⟨rfl, y0, y5, y6, yB⟩))
          obtain ⟨R9, B9⟩ := hfin.out w9 yB
          have hmark := mark_at oa oc S.out.length S.out line S.out.length m rfl w9 R9.out (by omega) (Nat.le_refl _) (by omega)
          have hm2 := fun w10 hs ho => hrel.out w10 oa oc fa fc (RefSt.marked (words := S.words) (out := S.out) (fl := S.fl) (out' := mkP S.out line S.out.length m) R9 hs (mkP_length _ _ _ _) ho) (B9.trans (ho.below B9.size (fun k _ e => by have := R9.ob k e; omega)))
          simp only [mkP_length] at hm2
          replace hmark := Lib.hid hmark
          replace hm2 := Lib.hid hm2
          clear R9 B9 hrel hfin b0 b1 yB hlc hb0n hdr hrd
          go_wp2_with fail
          refine hmark.out.mono ?_
          rintro e' w10 ⟨rfl, hS10, hO10⟩
          have hfinal := hm2.out w10 hS10 hO10
          replace hfinal := Lib.hid hfinal
          clear hS10 hO10 hm2 hmark
          go_wp2_with fail
          go_roundw
          case rel => first | exact ⟨k + 1, by omega, by go_num, hfinal.out⟩ | ((repeat apply Exists.intro); exact ⟨⟨k + 1, by omega, by go_num, hfinal.out⟩, rfl⟩)
          case measure => simp [intOf]; omega
        · have hst : refStep n S ⟨5, t, off, val, old, line, (m : Int), ch⟩ = S := by
            unfold refStep
            rw [if_neg (by rintro ⟨_, h | ⟨h, _⟩⟩ <;> cases h), if_neg (by rintro ⟨h, _⟩; cases h), if_neg (by intro h; cases h), if_neg (by rintro ⟨_, h⟩; have h : (m : Int) ≤ ((looseP S.out line : Nat) : Int) := h; omega)]
          rw [hst] at hrel
          clear hst hb0 hA hR hok hE hBA
          replace hrel := Lib.hid hrel
          generalize looseP S.out line = lo at *
          have d7 : decide ((m : Int) ≤ (lo : Int)) = false := decide_eq_false (by omega)
          have hleI : ¬ (m : Int) ≤ (lo : Int) := by omega
          replace hle := Lib.hid hle
          go_wp2_with fail
          go_quiet (fail)
          go_wp2_with fail
          have b0 := hb0n.out nq
          have x0 : ((wr.alloc (.cells #[.int .i64 5, .int .i64 (t : Int), .int .u64 (off : Int), .int .u64 (val : Int), .int .u64 (old : Int), .int .i64 (line : Int), .int .i64 (m : Int), .int .i64 0] 67)).drewN nq).cell? ⟨wr.heap.size, 0, none⟩ = some (.int .i64 5) := e0
          have x5 : ((wr.alloc (.cells #[.int .i64 5, .int .i64 (t : Int), .int .u64 (off : Int), .int .u64 (val : Int), .int .u64 (old : Int), .int .i64 (line : Int), .int .i64 (m : Int), .int .i64 0] 67)).drewN nq).cell? ⟨wr.heap.size, 5, none⟩ = some (.int .i64 (line : Int)) := e5
          have x6 : ((wr.alloc (.cells #[.int .i64 5, .int .i64 (t : Int), .int .u64 (off : Int), .int .u64 (val : Int), .int .u64 (old : Int), .int .i64 (line : Int), .int .i64 (m : Int), .int .i64 0] 67)).drewN nq).cell? ⟨wr.heap.size, 6, none⟩ = some (.int .i64 (m : Int)) := e6
          generalize hwz : (wr.alloc (.cells #[.int .i64 5, .int .i64 (t : Int), .int .u64 (off : Int), .int .u64 (val : Int), .int .u64 (old : Int), .int .i64 (line : Int), .int .i64 (m : Int), .int .i64 0] 67)).drewN nq = wz at *
          replace hwz := Lib.hid hwz
          have b1 := hdr.out _ b0
          go_region_held3 (fun w' => w'.cell? ⟨wr.heap.size, 0, none⟩ = some (.int .i64 5) ∧ w'.cell? ⟨wr.heap.size, 5, none⟩ = some (.int .i64 (line : Int)) ∧ w'.cell? ⟨wr.heap.size, 6, none⟩ = some (.int .i64 (m : Int)) ∧ Below (wr.heap.size + 1) (wr.alloc (.cells #[.int .i64 5, .int .i64 (t : Int), .int .u64 (off : Int), .int .u64 (val : Int), .int .u64 (old : Int), .int .i64 (line : Int), .int .i64 (m : Int), .int .i64 0] 67)) w') (first | go_keep | (refine ⟨?_, ?_, ?_, ?_⟩; all_goals first | go_keep | (exact hdr.out _ (by assumption))))
            ((go_at_call 48; refine (hlc.out _ (by assumption)).mono ?_; rintro e' w9 ⟨rfl, y0, y5, y6, yB⟩))
          obtain ⟨R9, B9⟩ := hfin.out w9 yB
          have hfinal := hrel.out w9 oa oc fa fc R9 B9
          replace hfinal := Lib.hid hfinal
          clear R9 B9 hrel hfin b0 b1 yB hlc hb0n hdr hrd
          go_wp2_with fail
          go_roundw
          case rel => first | exact ⟨k + 1, by omega, by go_num, hfinal.out⟩ | ((repeat apply Exists.intro); exact ⟨⟨k + 1, by omega, by go_num, hfinal.out⟩, rfl⟩)
          case measure => simp [intOf]; omega
    · obtain rfl : k = es.length := by omega
      rw [List.take_of_length_le (Nat.le_refl _)] at hR
      rw [List.take_of_length_le (Nat.le_refl _)]
      have hrd := Rd.of_own hR.out
      clear hR
      go_wp2_with fail
      (try go_ret)
      rw [← hpost.out]
      exact ⟨oa, oc, rfl, hrd, hB⟩
end Go.Proofs.Ytpgjpoilcdkjgaa
