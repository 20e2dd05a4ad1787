/- The walk of TopOrder. -/
import Derived.Test.YtjmdibgncaljaaaT1
import Derived.Test.YtjmdibgncaljaaaO22
import Derived.Test.YtjmdibgncaljaaaO41
import Derived.Test.YtjmdibgncaljaaaO39
import Derived.Test.YtjmdibgncaljaaaK23
import Derived.Test.YtjmdibgncaljaaaK29
import Derived.Test.YtjmdibgncaljaaaQP
import Derived.IntWalk
namespace Go.Proofs.Ytjmdibgncaljaaa
open Go.RowKit
attribute [local go_sem] Oper.semAt_some
theorem news_at {w : World} {b : Nat} {cs : List Value} {T : TypeId} (h : Has w b cs T) (j : Nat) (u : Value) (hj : cs[j]? = some u) : w.cell? (Addr.add ⟨b, 0, none⟩ j) = some u := by
  have := h.cell hj
  unfold Addr.add
  split
  · simp_all
  · simpa using this
/-- The last store. -/
def lastEv : Ev := ⟨1, 0, 8, 77, 0, 0, 0, .slice none 0 0⟩
theorem last_good : lastEv.Good := ⟨⟨by simp [lastEv], by simp [lastEv], by simp [lastEv], by simp [lastEv], by simp [lastEv], by simp [lastEv], by simp [lastEv], by simp [lastEv]⟩, by simp [lastEv], none, 0, 0, rfl, by decide⟩
/-- The events in their slice, which is new. -/
structure EvO (w : World) (es : List Ev) (n : Nat) (oa : Option Addr) (oc : Nat) (wr : World) : Prop where
  ln : es.length = n
  o : wr.ownsRow 0 30 8 (.slice oa n oc) n (evCells es)
  ob : ∀ k, Value.ownBlock (.slice oa n oc) = some k → w.heap.size ≤ k
  b : Below w.heap.size w wr
theorem EvO.below {w wr wr2 : World} {es : List Ev} {n : Nat} {oa : Option Addr} {oc : Nat} (h : EvO w es n oa oc wr) (hb : Below wr.heap.size wr wr2) : EvO w es n oa oc wr2 :=
  ⟨h.ln, ownsRow_only h.o (Only.of_below hb) (fun k hk e => by have := ownsRow_lt h.o hk; omega), h.ob, h.b.trans (hb.mono h.b.size)⟩
theorem EvO.app {w w1 w2 : World} {es : List Ev} {e : Ev} {n : Nat} {oa oa' : Option Addr} {oc oc' : Nat} (h : EvO w es n oa oc w1)
    (own2 : w2.ownsRow 0 30 8 (.slice oa' (n + 1) oc') (n + 1) (evCells es ++ e.cells)) (only2 : Only (fun k => Value.ownBlock (.slice oa n oc) = some k) w1 w2)
    (fresh2 : ∀ k, Value.ownBlock (.slice oa' (n + 1) oc') = some k → Value.ownBlock (.slice oa n oc) = some k ∨ w1.heap.size ≤ k) : EvO w (es ++ [e]) (n + 1) oa' oc' w2 := by
  have hs := h.b.size
  refine ⟨by rw [List.length_append, List.length_singleton, h.ln], by rw [evCells_snoc]; exact own2, fun k hk => ?_, h.b.trans (only2.below (B := w.heap.size) hs (fun k _ e => h.ob k e))⟩
  rcases fresh2 k hk with h1 | h1
  · exact h.ob k h1
  · omega

/-- An append of one one-cell element, which the walk has just boxed in block g: inside a fence. -/
theorem wpListIn_app1 {F : Fence} {fn : Nat} {P : Program} {w : World} {ops : Array Oper} {rest : List Oper} {o : Oper} {a : Act} {Q : Exit → Act → World → Prop} (hgd : o.guard = none) (s x : Operand) (t : TypeId)
    (ho : o.op = .call { callee := .builtin .append, args := #[s, x], argTypes := #[t, t] })
    (e : TypeId) (z : Value) (bytes : Nat) (ht : P.underlying t = some (.slice e))
    (hi : (P.info? e).map (fun i => (i.zero, i.size, i.bytes)) = some (some z, 1, bytes)) (hzs : z.cells.size = 1) (hby : 0 < bytes)
    (sa : Option Addr) (n cap : Nat) (xs : List Value) (hs : a.eval s = .slice sa n cap) (u : Value) (w0 : World) (hw : w = w0.alloc (.cells #[u] e)) (hown : w0.ownsRow 0 e 1 (.slice sa n cap) n xs)
    (g : Nat) (hx : a.eval x = .slice (some ⟨g, 0, none⟩) 1 1) (hg : w0.heap.size = g) (h1 : u.oneCell' = true)
    (hbytes : (n + 1) * bytes ≤ 140737488355328)
    (h : ∀ sa' cap' w', w'.ownsRow 0 e 1 (.slice sa' (n + 1) cap') (n + 1) (xs ++ [u]) → Only (fun k => Value.ownBlock (.slice sa n cap) = some k) w0 w' →
      (∀ k, Value.ownBlock (.slice sa' (n + 1) cap') = some k → Value.ownBlock (.slice sa n cap) = some k ∨ w0.heap.size ≤ k) → wpListIn F fn P ops Q rest (a.put o.dst (.slice sa' (n + 1) cap')) w') :
    wpListIn F fn P ops Q (o :: rest) a w := by
  subst hw hg
  refine wpListIn_plain hgd fun K hK => ?_
  obtain ⟨sa', cap', w', hr, h2, h3, h4⟩ := app_run (P := P) (w0.alloc (.cells #[u] e)) t o.type e z 1 bytes ht hi hzs (by decide) hby sa n cap xs (hown.alloc _) ⟨w0.heap.size, 0, none⟩ 1 1 [u] rfl (fun j y hj => by
    match j, hj with
    | 0, hj => simp at hj; subst hj; simp [Addr.add]) (by simpa using h1) hbytes
  unfold Oper.wpIn
  refine ⟨?_, ?_⟩
  · simp [Oper.about, ho, resolve, Target.leads, Sem.run_pure]
  · rw [Oper.semAt_plain F _ _ (by rw [ho]; intro c hc'; cases hc')]
    simp [execOp, ho, resolve, invoke, builtin, hs, hx, hr, Result.andThen]
    refine hK _ _ (h sa' cap' w' h2 (((Only.refl _ w0).alloc _).trans h3) fun k hk => ?_)
    rcases h4 k hk with h5 | h5
    · exact .inl h5
    · exact .inr (by simp at h5; omega)

theorem infoStr : (Try.prog.info? 9).map (fun i => (i.zero, i.size, i.bytes)) = some (some (.string ⟨#[]⟩), 1, 16) := by kernel_rfl
/-- The images of the first cuts, as strings. -/
def cutStrs (G : Gr) (k : Nat) : List ByteArray := (List.range k).map fun N => Dev.strOf (imgP G (natsI (cutL G (takenN G N))))
theorem cutStrs_succ (G : Gr) (k : Nat) : cutStrs G (k + 1) = cutStrs G k ++ [Dev.strOf (imgP G (natsI (cutL G (takenN G k))))] := by
  unfold cutStrs; rw [List.range_succ, List.map_append]; rfl
theorem cutStrs_len (G : Gr) (k : Nat) : (cutStrs G k).length = k := by simp [cutStrs]
theorem strV_snoc (l : List ByteArray) (s : ByteArray) : strV (l ++ [s]) = strV l ++ [.string s] := by simp [strV]
/-- What lies in memory between two rounds over the cuts: their images' strings in a slice of its own, in the box behind w8. -/
def CutsI (G : Gr) (c : Nat → Prop) (w8 : World) (n9 : Nat) (pre : List (Value × Nat)) (A : World) : Prop :=
  ∃ sa sc, Has A w8.heap.size [.slice sa pre.length sc] 45 ∧ A.ownsRow 0 9 1 (.slice sa pre.length sc) pre.length (strV (cutStrs G pre.length)) ∧
    (∀ k, Value.ownBlock (.slice sa pre.length sc) = some k → n9 ≤ k ∧ ¬ c k) ∧ Below w8.heap.size w8 A ∧ n9 ≤ A.heap.size
theorem ownsRow_at {w w' : World} {e : TypeId} {size : Nat} {v : Value} {n : Nat} {xs : List Value} (h : w.ownsRow 0 e size v n xs) (hk : ∀ k o, v.ownBlock = some k → w.heap[k]? = some o → o.isCells = true → w'.heap[k]? = some o) : w'.ownsRow 0 e size v n xs := by
  obtain ⟨h1, h2⟩ := h
  refine ⟨h1, ?_⟩
  rcases h2 with ⟨rfl, rfl⟩ | ⟨g, cap, cur, rfl, h3, hh, r⟩
  · exact .inl ⟨rfl, rfl⟩
  · exact .inr ⟨g, cap, cur, rfl, h3, hk g _ rfl hh rfl, r⟩
theorem ownsRow_cells {w : World} {e : TypeId} {size : Nat} {v : Value} {n : Nat} {xs : List Value} (h : w.ownsRow 0 e size v n xs) {k : Nat} (hk : v.ownBlock = some k) {o : Obj} (ho : w.heap[k]? = some o) : o.isCells = true := by
  obtain ⟨_, h2⟩ := h
  rcases h2 with ⟨rfl, rfl⟩ | ⟨g, cap, cur, rfl, h3, hh, r⟩
  · cases hk
  · simp [Value.ownBlock] at hk; subst hk; rw [hh] at ho; cases ho; rfl
theorem CutsI.roll {G : Gr} {c : Nat → Prop} {w8 A E : World} {n9 : Nat} {pre : List (Value × Nat)} (h : CutsI G c w8 n9 pre A) (hc : ∀ k, c k → n9 ≤ k) (hD : w8.heap.size < n9) (hr : Roll n9 c A E) : CutsI G c w8 n9 pre E := by
  obtain ⟨sa, sc, h1, h2, h3, h4, h5⟩ := h
  refine ⟨sa, sc, ?_, ownsRow_at h2 (fun k o hk ho hco => hr.2.1 k o ho (h3 k hk).2 (.inr hco)), h3, hr.below hc (by omega) h4 (Nat.le_refl _), Nat.le_trans h5 hr.1⟩
  exact hr.2.1 _ _ h1 (fun e => by have := hc _ e; omega) (.inr rfl)
/-- One cut's image more. -/
theorem CutsI.next {G : Gr} {c r : Nat → Prop} {w8 A wq w2 : World} {n9 N : Nat} {pre : List (Value × Nat)} {x : Value × Nat} {sa sa' : Option Addr} {sc sc' : Nat} (hN : pre.length = N)
    (h1 : Has A w8.heap.size [.slice sa N sc] 45) (h2 : A.ownsRow 0 9 1 (.slice sa N sc) N (strV (cutStrs G N))) (h3 : ∀ k, Value.ownBlock (.slice sa N sc) = some k → n9 ≤ k ∧ ¬ c k)
    (h4 : Below w8.heap.size w8 A) (h5 : n9 ≤ A.heap.size) (hq : Below A.heap.size A wq) (own2 : w2.ownsRow 0 9 1 (.slice sa' (N + 1) sc') (N + 1) (strV (cutStrs G N) ++ [.string (Dev.strOf (imgP G (natsI (cutL G (takenN G N)))))]))
    (only2 : Only (fun k => Value.ownBlock (.slice sa N sc) = some k) wq w2) (fresh2 : ∀ k, Value.ownBlock (.slice sa' (N + 1) sc') = some k → Value.ownBlock (.slice sa N sc) = some k ∨ wq.heap.size ≤ k)
    (hc : ∀ k, c k → n9 ≤ k ∧ k < A.heap.size) (hr : ∀ k, r k → k < n9 ∧ k ≠ w8.heap.size) (h8 : w8.heap.size < n9) :
    KeepsFrom n9 A (w2.setCell ⟨w8.heap.size, 0, none⟩ (.slice sa' (N + 1) sc')) ∧ KeepB (fun k => c k ∨ r k) A (w2.setCell ⟨w8.heap.size, 0, none⟩ (.slice sa' (N + 1) sc')) ∧
      CutsI G c w8 n9 (pre ++ [x]) (w2.setCell ⟨w8.heap.size, 0, none⟩ (.slice sa' (N + 1) sc')) := by
  have hsq := hq.size
  have hs2 := only2.size
  have hl1 := h1.lt
  have hA2 : ∀ k, k < A.heap.size → Value.ownBlock (.slice sa N sc) ≠ some k → w2.heap[k]? = A.heap[k]? := fun k hk hn => (only2.block k (by omega) hn).trans (hq.block k hk)
  have hb8 : Value.ownBlock (.slice sa N sc) ≠ some w8.heap.size := fun e => by have := (h3 _ e).1; omega
  have hB2 : Below w8.heap.size w8 w2 := (h4.trans (hq.mono h4.size)).trans (only2.below (B := w8.heap.size) (by have := h4.size; omega) (fun k _ e => by have := (h3 _ e).1; omega))
  refine ⟨⟨by simp; omega, fun k o hB hk ho => ?_⟩, ⟨by simp; omega, fun k o hk ho => ?_⟩, sa', sc', ?_, ?_, fun k hk => ?_, hB2.setCell (p := ⟨w8.heap.size, 0, none⟩) (Nat.le_refl _) _, by simp; omega⟩
  · have hkA := (Array.getElem?_eq_some_iff.1 hk).1
    rw [heap_setCell_ne (by show k ≠ w8.heap.size; omega), hA2 k hkA (fun e => by
      have h6 := ownsRow_cells h2 e hk
      have h7 : o.isCells = false := ho
      rw [h6] at h7; cases h7)]
    exact hk
  · have hkA := (Array.getElem?_eq_some_iff.1 ho).1
    have hne : k ≠ w8.heap.size := fun e => by
      rcases hk with h | h
      · have := hc k h; omega
      · exact (hr k h).2 e
    rw [heap_setCell_ne hne, hA2 k hkA (fun e => by
      rcases hk with h | h
      · exact (h3 k e).2 h
      · have := (h3 k e).1; have := (hr k h).1; omega)]
    exact ho
  · rw [List.length_append, List.length_singleton, hN]
    have : Has w2 w8.heap.size [.slice sa N sc] 45 := (hA2 _ hl1 hb8).trans h1
    exact this.set 0 _
  · rw [List.length_append, List.length_singleton, hN, cutStrs_succ, strV_snoc]
    refine ownsRow_only own2 ((Only.refl (fun k => k = w8.heap.size) w2).setCell (a := ⟨w8.heap.size, 0, none⟩) (fun _ => rfl) (.slice sa' (N + 1) sc')) (fun k hk e => ?_)
    subst e
    rcases fresh2 _ hk with h | h
    · exact hb8 h
    · omega
  · rw [List.length_append, List.length_singleton, hN] at hk
    rcases fresh2 k hk with h | h
    · exact h3 k h
    · exact ⟨by omega, fun e => by have := (hc k e).2; omega⟩

/-- The device of the script's first k events, and that it agrees with the graph's run. -/
def DevAt (B dB : Nat) (es : List Ev) (k : Nat) (L : Dev.Lay) (wr : World) : Prop :=
  ∃ F, Dev.DevSt wr F 0 L (2 * k) (devRun 4 (es.take k)) ∧ Pair (devRun 4 (es.take k)) (runP 4 (es.take k)) ∧ (∀ b, b < B → F b = none) ∧ F dB = none ∧ dB < wr.heap.size
theorem DevAt.below {B dB k : Nat} {es : List Ev} {L : Dev.Lay} {w w' : World} (h : DevAt B dB es k L w) (hb : Below w.heap.size w w') : DevAt B dB es k L w' := by
  obtain ⟨F, h1, h2, h3, h4, h5⟩ := h; exact ⟨F, h1.below hb, h2, h3, h4, Nat.lt_of_lt_of_le h5 hb.size⟩
theorem DevAt.set {B dB k : Nat} {es : List Ev} {L : Dev.Lay} {w : World} (h : DevAt B dB es k L w) (o : Nat) (v : Value) : DevAt B dB es k L (w.setCell ⟨dB, o, none⟩ v) := by
  obtain ⟨F, h1, h2, h3, h4, h5⟩ := h
  exact ⟨F, h1.kept ((Only.refl (fun j => j = dB) w).setCell (a := ⟨dB, o, none⟩) (fun _ => rfl) v) (Dev.Ext.refl _ _) (fun j r e s => by rw [e, h4] at s; cases s), h2, h3, h4, by simpa using h5⟩
theorem DevAt.step {B dB k : Nat} {es : List Ev} {L : Dev.Lay} {w : World} (h : DevAt B dB es k L w) (hB : B ≤ w.heap.size) (hl : es.length ≤ 100) (hg : ∀ e ∈ es, e.Good) (e : Ev) (he : es[k]? = some e) :
    Calls Try.prog 10 #[.pointer (some ⟨L.g, 0, none⟩), .agg #[.int .u8 (e.k : Int), .int .i64 (e.t : Int), .int .u64 (e.off : Int), .int .u64 (e.val : Int), .int .u64 (e.old : Int), .int .i64 (e.line : Int), .int .i64 e.n, e.ch]] w
      (fun x w' => ∃ b er, x = .returned (.tuple #[.pointer (some ⟨L.g, 0, none⟩), .bool b, .int .i64 er]) ∧ (er = 0 ∨ er = 2) ∧ DevAt B dB es (k + 1) L w' ∧ Below B w w' ∧ ∃ S, Only S w w' ∧ ¬ S dB) := by
  obtain ⟨F, h1, h2, h3, h6, h7⟩ := h
  have hk : k < es.length := by
    rcases Nat.lt_or_ge k es.length with h | h
    · exact h
    · rw [List.getElem?_eq_none h] at he; cases he
  have ht : es.take (k + 1) = es.take k ++ [e] := by rw [List.take_add_one, he]; rfl
  have hgd := hg e (List.mem_of_getElem? he)
  have hp := pair_snoc (n := 4) (by omega) (by omega) (es := es.take k) (e := e) (by simp; omega) (fun x hx => (hg x (List.mem_of_mem_take hx)).fit) hgd.fit h2 h1.ok (by omega)
  refine (step_any h1 (by omega) e hgd hp.off).mono ?_
  rintro x w' ⟨F', b, er, rfl, her, h4, h5⟩
  refine ⟨b, er, rfl, her, ⟨F', ?_, ?_, fun c hc => ?_, ?_, ?_⟩, h5.only.below hB (fun c _ ⟨r, s⟩ => ?_), _, h5.only, fun ⟨r, s⟩ => by rw [h6] at s; cases s⟩
  · rw [ht, devRun_snoc]; exact h4
  · rw [ht, devRun_snoc]; exact hp
  · rw [h5.ext c (by omega)]; exact h3 c hc
  · rw [h5.ext dB h7]; exact h6
  · have := h5.only.size; omega
  · rcases Nat.lt_or_ge c B with h | h
    · rw [h3 c h] at s; cases s
    · exact h
theorem count_store {S : Rn} {T : Nat} (ok : S.Ok T) (h : S.G.Count) {off v : Nat} (ho : off < 64 * S.G.n) : (storeP S off v).G.Count := by
  have rl := ok.rl
  have hlast : (S.G.ws ++ [(off, v)]).getD S.G.ws.length (0, 0) = (off, v) := by rw [List.getD, List.getElem?_append_right (Nat.le_refl _), Nat.sub_self]; rfl
  refine ⟨fun i hi => ?_, fun l hl => ?_⟩
  · have hi' : i < S.G.ws.length + 1 := by
      have : i < (S.G.ws ++ [(off, v)]).length := hi
      simpa using this
    show (S.G.rk ++ [S.G.ct.getD (off / 64) 0]).getD i 0 = cntL (S.G.ws ++ [(off, v)]) i (((S.G.ws ++ [(off, v)]).getD i (0, 0)).1 / 64)
    by_cases hlt : i < S.G.ws.length
    · have e1 : (S.G.ws ++ [(off, v)]).getD i (0, 0) = S.G.ws.getD i (0, 0) := by rw [List.getD, List.getElem?_append_left hlt]; rfl
      have e2 : (S.G.rk ++ [S.G.ct.getD (off / 64) 0]).getD i 0 = S.G.rk.getD i 0 := by rw [List.getD, List.getElem?_append_left (by omega)]; rfl
      rw [e1, e2, cntL_snoc _ _ _ _ (by omega)]
      exact h.rank i hlt
    · obtain rfl : i = S.G.ws.length := by omega
      rw [hlast, cntL_snoc _ _ _ _ (Nat.le_refl _), List.getD, ← rl, List.getElem?_append_right (Nat.le_refl _), Nat.sub_self, rl]
      exact h.count (off / 64) (by omega)
  · show (S.G.ct.set (off / 64) (S.G.ct.getD (off / 64) 0 + 1)).getD l 0 = cntL (S.G.ws ++ [(off, v)]) (S.G.ws ++ [(off, v)]).length l
    have hl' : l < S.G.n := hl
    rw [getD_set_nat _ _ _ _ (by rw [ok.cl]; omega), List.length_append, List.length_singleton, cntL_succ _ _ _ (by simp), cntL_snoc _ _ _ _ (Nat.le_refl _), hlast, ← h.count l hl']
    by_cases e : l = off / 64
    · subst e; rw [if_pos rfl, if_pos rfl]
    · rw [if_neg e, if_neg (fun h => e h.symm), Nat.add_zero]
theorem count_exec {S : Rn} {T : Nat} (ok : S.Ok T) (h : S.G.Count) (e : Ev) : (execP S e).G.Count := by
  unfold execP
  split
  · split
    · rename_i hc; exact count_store ok h hc.1
    · exact h
  split
  · split
    · rename_i hc; exact count_store ok h hc.1.1
    · exact h
  split
  · split
    · exact ⟨h.rank, h.count⟩
    · exact h
  split
  · exact ⟨h.rank, h.count⟩
  split
  · split
    · exact ⟨h.rank, h.count⟩
    · exact h
  · exact h
theorem cg_run (n : Nat) (h1 : 1 ≤ n) (h2 : n ≤ 4096) (es : List Ev) (hl : es.length ≤ 20000) (hg : ∀ e ∈ es, e.Good) : (runP n es).G.Count := by
  induction es using snoc_ind with
  | h0 => exact ⟨fun i hi => by simp [runP, initR] at hi, fun l hl => by
      show (List.replicate n 0).getD l 0 = _
      rw [Dev.rep_getD n l 0 0 hl]; simp [runP, initR, cntL]⟩
  | h1 es e ih =>
    have ih := ih (by simp at hl; omega) (fun e he => hg e (by simp [he]))
    rw [runP_snoc]
    exact count_exec (runP_ok n h1 h2 es (by simp at hl; omega) (fun e he => (hg e (by simp [he])).fit)) ih e
/-- The classes of worlds of the region that asks for an image's bytes and looks for their string. -/
structure AllC (A2 : World) (st : ByteArray) (H : Nat → Option Value) (w : World) : Prop where
  b : Below A2.heap.size A2 w
  c0 : ∀ v, H 0 = some v → Dev.Str w v st
  c1 : ∀ v, H 1 = some v → v = .bool true
theorem AllC.start (A2 : World) (st : ByteArray) : AllC A2 st (fun _ => none) A2.drew := ⟨Dev.Fr.drew (Below.refl _ _), fun v hv => (by cases hv), fun v hv => (by cases hv)⟩
theorem AllC.call0 {A2 w : World} {st : ByteArray} {H : Nat → Option Value} (h : AllC A2 st H w) (hI : ∀ wx, Calls Try.prog 19 #[.agg #[.string st]] wx (Dev.SPost wx st)) :
    Calls Try.prog 19 #[.agg #[.string st]] w (fun e w'' => ∃ v, e = .returned v ∧ AllC A2 st (setP H 0 v) w'') := by
  refine (hI w).mono ?_
  rintro e w' ⟨v, rfl, h1, h2⟩
  exact ⟨v, rfl, Dev.Fr.step h.b h2, fun u hu => by cases hu; exact h1, fun u hu => h.c1 u hu⟩
theorem AllC.call1 {A2 w : World} {st : ByteArray} {H : Nat → Option Value} {v0 : Value} (h : AllC A2 st H w) (hI : ∀ wx, Below A2.heap.size A2 wx → Calls Try.prog 18 #[v0, .string st] wx fun e w' => e = .returned (.bool true) ∧ wx = w') :
    Calls Try.prog 18 #[v0, .string st] w (fun e w'' => ∃ v, e = .returned v ∧ AllC A2 st (setP H 1 v) w'') := by
  refine (hI w h.b).mono ?_
  rintro e w' ⟨rfl, rfl⟩
  exact ⟨_, rfl, h.b, fun u hu => h.c0 u hu, fun u hu => by cases hu; rfl⟩
theorem AllC.ex {A2 : World} {st : ByteArray} {v0 : Value} (hI : ∀ wx, Calls Try.prog 19 #[.agg #[.string st]] wx (Dev.SPost wx st)) (hC : ∀ wx, Below A2.heap.size A2 wx → Calls Try.prog 18 #[v0, .string st] wx fun e w' => e = .returned (.bool true) ∧ wx = w')
    (H : Nat → Option Value) (w : World) (h : AllC A2 st H w) (hn : ∃ s, s < 2 ∧ H s = none) : ∃ s v w', s < 2 ∧ H s = none ∧ AllC A2 st (setP H s v) w' := by
  obtain ⟨s, hs, he⟩ := hn
  match s, hs with
  | 0, _ => obtain ⟨_, w', v, _, h1⟩ := Calls.ex (h.call0 hI); exact ⟨0, v, w', by omega, he, h1⟩
  | 1, _ => obtain ⟨_, w', v, _, h1⟩ := Calls.ex (h.call1 hC); exact ⟨1, v, w', by omega, he, h1⟩
theorem AllC.at {A2 w : World} {st : ByteArray} {Hf : Nat → Value} {nds : List Nat} : clsP (AllC A2 st) Hf nds w → Below A2.heap.size A2 w := fun ⟨_, _, _, h⟩ => h.b
theorem AllC.conv {A2 w : World} {st : ByteArray} {Hf : Nat → Value} {v : Value} (h : clsP (AllC A2 st) Hf [0] w) (hv : Hf 0 = v) : (convert 28 9 v).run Try.prog w = .ok (.string st) w := by
  obtain ⟨H, h1, h2, h3⟩ := h
  obtain ⟨u, hu⟩ := Option.isSome_iff_exists.1 (h2 0 (by simp))
  have e := h1 0 u hu
  rw [hv] at e
  subst e
  exact h3.c0 _ hu w (Below.refl _ _)

theorem natsI_len' (l : List Nat) : (natsI l).length = l.length := by simp [natsI]
theorem nats_natsI' (l : List Nat) : nats l = (natsI l).map (.int .i64) := by simp [nats, natsI]
theorem evs_good' (acs : List Ac) (hf : ∀ a ∈ acs, a.Fit) (m : Nat) : ∀ e ∈ evs (acs.take m), e.Good := by
  intro e he
  simp only [evs, List.mem_map] at he
  obtain ⟨a, ha, rfl⟩ := he
  exact a.ev_good (hf a (List.mem_of_mem_take ha))

set_option maxHeartbeats 4000000 in
set_option maxRecDepth 100000 in
theorem top_walk (acs : List Ac) (hf : ∀ a ∈ acs, a.Fit) (aa : Option Addr) (cap : Nat) (W : World) (hr : Rd W (.slice aa acs.length cap) acs.length (acCells acs)) (hll : acs.length ≤ 9223372036854775807) (hcap : acs.length ≤ cap) :
    Calls Try.prog 3 #[.slice aa acs.length cap] W fun e w' => e = .returned (.bool true) ∧ Below W.heap.size W w' := by
  generalize hpost : (fun (e : Ending) w' => e = .returned (.bool true) ∧ Below W.heap.size W w') = post
  replace hpost := Lib.hid hpost
  obtain ⟨W0, hW0⟩ : ∃ W0, W0 = W.alloc (.cells #[.bool false] 4) := ⟨_, rfl⟩
  have hb0 : Below W.heap.size W W0 := by rw [hW0]; exact (Below.refl _ _).alloc (Nat.le_refl _) _
  have hRs : Has W0 W.heap.size [.bool false] 4 := by rw [hW0]; exact Has.new W [.bool false] 4
  have hr0 := hr.kept hb0
  obtain ⟨m, hm⟩ : ∃ m : Nat, m = min acs.length 24 := ⟨_, rfl⟩
  have hm24 : m ≤ 24 := by omega
  have hma : m ≤ acs.length := by omega
  have hmin : min (acs.length : Int) 24 = (m : Int) := by omega
  have hmn2 : (if (24 : Int) < (acs.length : Int) then (24 : Int) else (acs.length : Int)) = (m : Int) := by
    by_cases h : (24 : Int) < (acs.length : Int)
    · rw [if_pos h]; omega
    · rw [if_neg h]; omega
  have hmn3 : (if 24 < acs.length then (24 : Int) else (acs.length : Int)) = (m : Int) := by
    by_cases h : 24 < acs.length
    · rw [if_pos h]; omega
    · rw [if_neg h]; omega
  have hmc : m ≤ cap := by omega
  have hmcI : (m : Int) ≤ (cap : Int) := by omega
  have hm0I : (0 : Int) ≤ (m : Int) := by omega
  replace hm := Lib.hid hm
  replace hW0 := Lib.hid hW0
  replace hb0 := Lib.hid hb0
  replace hRs := Lib.hid hRs
  replace hr0 := Lib.hid hr0
  clear hr
  refine calls_of_marks Try.func3 rfl ?_
  simp only [Try.ntmps3, List.size_toArray, List.length_cons, List.length_nil, Nat.reduceAdd, Nat.reduceSub, Array.replicate_succ, Array.replicate_zero, List.push_toArray, List.append_toArray, List.nil_append, List.cons_append]
  go_wp2_with fail
  rw [← hW0.out]
  have hE0 : EvO W0 (evs (acs.take 0)) 0 none 0 W0 := ⟨rfl, World.ownsRow_nil _ _ _ _, fun k hk => (by cases hk), Below.refl _ _⟩
  go_loopw [3, 30] (fun o i wr => ∃ (k : Nat) (oa : Option Addr) (oc : Nat), k ≤ m ∧ i = .int .i64 (k : Int) ∧ o = .slice oa k oc ∧ EvO W0 (evs (acs.take k)) k oa oc wr) (fun _ i _ => m - (intOf i).toNat)
  case atStart => exact ⟨0, none, 0, Nat.zero_le _, rfl, rfl, hE0⟩
  case round =>
    clear hE0
    obtain ⟨k, oa, oc, hk, rfl, rfl, hR⟩ := hrel
    by_cases hlt : k < m
    · have hlI : (k : Int) < (m : Int) := by omega
      have hk' : k < acs.length := by omega
      obtain ⟨bl, ol, cl, ea, fa⟩ := (hr0.out.kept hR.b).cells (by omega)
      simp only [Value.slice.injEq, true_and] at ea
      obtain ⟨rfl, hcp⟩ := ea
      replace hcp := Lib.hid hcp
      have hat := get_of_lt (⟨0, 0, 0, 0, 0, 0⟩ : Ac) hk'
      have hfa := hf _ (List.mem_of_getElem? hat)
      have htk : evs (acs.take (k + 1)) = evs (acs.take k) ++ [(acs.getD k ⟨0, 0, 0, 0, 0, 0⟩).ev] := by
        unfold evs; rw [take_getD acs k ⟨0, 0, 0, 0, 0, 0⟩ hk', List.map_append]; rfl
      generalize acs.getD k ⟨0, 0, 0, 0, 0, 0⟩ = a at *
      have c0 : wr.cell? ⟨bl, ol + k * 6, none⟩ = _ := fa _ _ (acCells_get acs k a hat 0 _ rfl)
      have c1 : wr.cell? ⟨bl, ol + k * 6 + 1, none⟩ = _ := fa _ _ (acCells_get acs k a hat 1 _ rfl)
      have c2 : wr.cell? ⟨bl, ol + k * 6 + 2, none⟩ = _ := fa _ _ (acCells_get acs k a hat 2 _ rfl)
      have c3 : wr.cell? ⟨bl, ol + k * 6 + 3, none⟩ = _ := fa _ _ (acCells_get acs k a hat 3 _ rfl)
      have c4 : wr.cell? ⟨bl, ol + k * 6 + 4, none⟩ = _ := fa _ _ (acCells_get acs k a hat 4 _ rfl)
      have c5 : wr.cell? ⟨bl, ol + k * 6 + 5, none⟩ = _ := fa _ _ (acCells_get acs k a hat 5 _ rfl)
      have hev := event_any a hfa
      have hch := a.ev_ch
      unfold EventPost at hev
      rw [hch] at hev
      have hec : a.ev.cells = [.int .u8 (a.ev.k : Int), .int .i64 (a.ev.t : Int), .int .u64 (a.ev.off : Int), .int .u64 (a.ev.val : Int), .int .u64 (a.ev.old : Int), .int .i64 (a.ev.line : Int), .int .i64 a.ev.n, .slice none 0 0] := by unfold Ev.cells; rw [hch]
      generalize a.ev = e at *
      replace hev := Lib.hid hev
      replace htk := Lib.hid htk
      replace hat := Lib.hid hat
      replace hch := Lib.hid hch
      replace hec := Lib.hid hec
      have hRA := hR.below ((Below.refl wr.heap.size wr).alloc (Nat.le_refl _) (.cells #[.int .u8 (a.k : Int), .int .u8 (a.t : Int), .int .u8 (a.w : Int), .int .u8 (a.v : Int), .int .u8 (a.o : Int), .int .u8 (a.n : Int)] 25))
      clear fa hR
      replace hRA := Lib.hid hRA
      go_wp2_with fail
      refine (hev.out _).mono ?_
      rintro e' w1 ⟨rfl, hB1⟩
      have hR1 := hRA.out.below hB1
      have hR1a := hR1.below ((Below.refl w1.heap.size w1).alloc (Nat.le_refl _) (.cells #[.int .u8 (e.k : Int), .int .i64 (e.t : Int), .int .u64 (e.off : Int), .int .u64 (e.val : Int), .int .u64 (e.old : Int), .int .i64 (e.line : Int), .int .i64 e.n, .slice none 0 0] 30))
      have hN1 := Has.new w1 [.int .u8 (e.k : Int), .int .i64 (e.t : Int), .int .u64 (e.off : Int), .int .u64 (e.val : Int), .int .u64 (e.old : Int), .int .i64 (e.line : Int), .int .i64 e.n, .slice none 0 0] 30
      have ho1 := hR1a.o
      have hby1 : (k + 1) * 80 ≤ 140737488355328 := by omega
      replace hR1a := Lib.hid hR1a
      clear hB1 hR1 hRA c0 c1 c2 c3 c4 c5 hev
      go_wp2_with (at_builtin; go_loud (refine wpList_app rfl (.tmp 34) (.tmp 37) 23 rfl 30 (.agg #[.int .u8 0, .int .i64 0, .int .u64 0, .int .u64 0, .int .u64 0, .int .i64 0, .int .i64 0, .slice none 0 0]) 8 80 Try.underlying23 info65 rfl (by decide) (by decide) oa k oc (evCells (evs (acs.take k))) (by exact ho1) rfl _ 1 1 [.int .u8 (e.k : Int), .int .i64 (e.t : Int), .int .u64 (e.off : Int), .int .u64 (e.val : Int), .int .u64 (e.old : Int), .int .i64 (e.line : Int), .int .i64 e.n, .slice none 0 0] rfl rfl (by exact news_at hN1) (by simp [Value.oneCell']) (by exact hby1) ?_))
      intro oa' oc' w2 own2 only2 fresh2
      have hrel' := Lib.hid (hR1a.out.app (e := e) (by rw [hec.out]; exact own2) only2 (fun j hj => by have := fresh2 j hj; simpa using this))
      rw [← htk.out] at hrel'
      clear hN1 ho1 own2 only2 fresh2 hR1a
      go_wp2_with fail
      exact ⟨⟨k + 1, oa', oc', by omega, by go_num, rfl, hrel'.out⟩, by simp [intOf]; omega⟩
    · obtain rfl : k = m := by omega
      have hlI : ¬ (k : Int) < (k : Int) := by omega
      have hgd0 := evs_good' acs hf k
      generalize evs (acs.take k) = es0 at *
      have hby1 : (k + 1) * 80 ≤ 140737488355328 := by omega
      have hR1a := hR.below ((Below.refl wr.heap.size wr).alloc (Nat.le_refl _) (.cells #[.int .u8 1, .int .i64 0, .int .u64 8, .int .u64 77, .int .u64 0, .int .i64 0, .int .i64 0, .slice none 0 0] 30))
      have hN1 := Has.new wr [.int .u8 1, .int .i64 0, .int .u64 8, .int .u64 77, .int .u64 0, .int .i64 0, .int .i64 0, .slice none 0 0] 30
      have ho1 := hR1a.o
      replace hR1a := Lib.hid hR1a
      clear hR
      go_wp2_with (at_builtin; refine wpList_app rfl (.tmp 40) (.tmp 42) 23 rfl 30 (.agg #[.int .u8 0, .int .i64 0, .int .u64 0, .int .u64 0, .int .u64 0, .int .i64 0, .int .i64 0, .slice none 0 0]) 8 80 Try.underlying23 info65 rfl (by decide) (by decide) oa k oc (evCells es0) (by exact ho1) rfl _ 1 1 [.int .u8 1, .int .i64 0, .int .u64 8, .int .u64 77, .int .u64 0, .int .i64 0, .int .i64 0, .slice none 0 0] rfl rfl (by exact news_at hN1) (by simp [Value.oneCell']) (by exact hby1) ?_)
      intro oa' oc' w2 own2 only2 fresh2
      have hR2 := Lib.hid (hR1a.out.app (e := lastEv) own2 only2 (fun j hj => by have := fresh2 j hj; simpa using this))
      clear hN1 ho1 own2 only2 fresh2 hR1a
      have heg : ∀ e ∈ es0 ++ [lastEv], e.Good := fun e he => by
        rcases List.mem_append.1 he with h | h
        · exact hgd0 e h
        · rw [List.mem_singleton.1 h]; exact last_good
      have hel : (es0 ++ [lastEv]).length = k + 1 := hR2.out.ln
      have hlast : runP 4 (es0 ++ [lastEv]) = execP (runP 4 es0) lastEv := runP_snoc 4 es0 lastEv
      have hok0 : (runP 4 es0).Ok es0.length := runP_ok 4 (by omega) (by omega) es0 (by simp at hel; omega) (fun e he => (hgd0 e he).fit)
      have htwo : 2 ≤ prodB (bsG (runP 4 (es0 ++ [lastEv])).G) 4 := by
        refine Nat.le_trans ?_ (prodB_ge (bsG_pos _) 4 0 (by omega))
        rw [hlast]
        have hn4 : (runP 4 es0).G.n = 4 := runP_n 4 es0
        have hx : execP (runP 4 es0) lastEv = storeP (runP 4 es0) 8 77 := by
          unfold execP
          rw [if_pos (show lastEv.k = 1 from rfl), if_pos (show lastEv.off < 64 * (runP 4 es0).G.n ∧ lastEv.off % 8 = 0 from ⟨by rw [hn4]; decide, rfl⟩)]; rfl
        rw [hx]
        have hmc := hok0.mc 0
        show 2 ≤ (((runP 4 es0).G.ct.set 0 ((runP 4 es0).G.ct.getD 0 0 + 1)).getD 0 0) - (runP 4 es0).G.md.getD 0 0 + 1
        rw [getD_set_nat _ _ _ _ (by rw [hok0.cl, hn4]; decide), if_pos rfl]
        omega
      have hws : 1 ≤ (runP 4 (es0 ++ [lastEv])).G.ws.length := by
        rw [hlast]
        have hx : execP (runP 4 es0) lastEv = storeP (runP 4 es0) 8 77 := by
          unfold execP
          rw [if_pos (show lastEv.k = 1 from rfl), if_pos (show lastEv.off < 64 * (runP 4 es0).G.n ∧ lastEv.off % 8 = 0 from ⟨by rw [runP_n]; decide, rfl⟩)]; rfl
        rw [hx]
        show 1 ≤ ((runP 4 es0).G.ws ++ [(8, 77)]).length
        simp
      have hcg := cg_run 4 (by omega) (by omega) (es0 ++ [lastEv]) (by omega) heg
      have hRd : Rd w2 (.slice oa' (k + 1) oc') (k + 1) (evCells (es0 ++ [lastEv])) := Rd.of_own hR2.out.o
      have hB2 := hR2.out.b
      generalize es0 ++ [lastEv] = es at *
      obtain ⟨n, hn⟩ : ∃ n, n = k + 1 := ⟨_, rfl⟩
      rw [← hn] at hel hRd ⊢
      have hn25 : n ≤ 25 := by omega
      replace hn := Lib.hid hn
      have hnew := new_at 4 es oa' oc' w2 (by omega) (by omega) (by omega) (by rw [hel]; exact hRd) heg
      rw [hel] at hnew
      replace hnew := Lib.hid hnew
      clear hok0 hlast hR2 hgd0 hlI hr0 hmin hmn2 hmn3 hmc hmcI hm0I hk hby1 hma hm24 hm
      go_wp2_with fail
      refine hnew.out.mono ?_
      rintro e w3 ⟨g, rfl, hG, hB3⟩
      obtain ⟨w4, hw4⟩ : ∃ w4, w4 = w3.alloc (.cells #[.pointer (some ⟨g, 0, none⟩)] 32) := ⟨_, rfl⟩
      have hB4 : Below w3.heap.size w3 w4 := by rw [hw4]; exact (Below.refl _ _).alloc (Nat.le_refl _) _
      have hGb : Has w4 w3.heap.size [.pointer (some ⟨g, 0, none⟩)] 32 := by rw [hw4]; exact Has.new w3 [.pointer (some ⟨g, 0, none⟩)] 32
      have hG4 := hG.only (Only.of_below hB4) (fun k _ h => Nat.not_le.2 h)
      have hR4 := (hRd.kept hB3).kept hB4
      have hBb := (hB2.trans (hB3.mono hB2.size)).trans (hB4.mono (Nat.le_trans hB2.size hB3.size))
      have hnd := Dev.new_any w4 (fun _ => none) 0 4 (by decide) (by decide)
      rw [show ((4 : Nat) : Int) = 4 from rfl, hw4] at hnd
      replace hnd := Lib.hid hnd
      replace hw4 := Lib.hid hw4
      have hs34 := hB4.size
      have hs23 := hB3.size
      have hs02 := hB2.size
      have hs4 := Lib.hid (show w4.heap.size = w3.heap.size + 1 by rw [hw4.out]; simp)
      clear hnew hB3 hB4 hG hRd hB2
      go_wp2_with fail
      refine hnd.out.mono ?_
      rw [← hw4.out]
      rintro e w5 ⟨L, F, rfl, hD, hE, hB5⟩
      obtain ⟨w6, hw6⟩ : ∃ w6, w6 = w5.alloc (.cells #[.pointer (some ⟨L.g, 0, none⟩)] 36) := ⟨_, rfl⟩
      have hB6 : Below w5.heap.size w5 w6 := by rw [hw6]; exact (Below.refl _ _).alloc (Nat.le_refl _) _
      have hDb : Has w6 w5.heap.size [.pointer (some ⟨L.g, 0, none⟩)] 36 := by rw [hw6]; exact Has.new w5 [.pointer (some ⟨L.g, 0, none⟩)] 36
      have hs5 := hB5.size
      have hDA : DevAt w4.heap.size w5.heap.size es 0 L w6 := ⟨F.trim w5, hD.trim.below hB6, Pair.init 4, fun b hb => by rw [F.trim_ext w5 b (by omega)]; exact hE b hb, F.trim_new w5 (Nat.le_refl _), hDb.lt⟩
      have hB46 : Below w4.heap.size w4 w6 := hB5.trans (hB6.mono hB5.size)
      have hG6 := hG4.only (Only.of_below hB46) (fun k _ h => Nat.not_le.2 h)
      have hGb6 := hGb.only (Only.of_below hB46) (Nat.not_le.2 hGb.lt)
      have cG6 := hGb6.cell (o := 0) rfl
      have hst6 := stores_any g (runP 4 es).G w6 hG6.st
      rw [hw6] at cG6
      have hw0 : (((runP 4 es).G.ws.length : Int) == 0) = false := by rw [beq_eq_false_iff_ne]; omega
      have hw0' : ¬ ((runP 4 es).G.ws.length : Int) = 0 := by omega
      have hs6 := hB6.size
      replace hst6 := Lib.hid hst6
      replace hw6 := Lib.hid hw6
      replace hR4 := Lib.hid hR4
      replace hG4 := Lib.hid hG4
      replace hGb := Lib.hid hGb
      replace hBb := Lib.hid hBb
      replace hDA := Lib.hid hDA
      replace hB46 := Lib.hid hB46
      replace hDb := Lib.hid hDb
      replace heg := Lib.hid heg
      clear hnd hD hE hG6 hGb6 hB5 hB6
      go_wp2_with fail
      rw [show w5.alloc (.cells #[.pointer (some ⟨L.g, 0, none⟩)] 36) = w6 from hw6.out.symm]
      refine hst6.out.mono ?_
      rintro e w' ⟨rfl, rfl⟩
      obtain ⟨oa2, oc2, hoe, _⟩ := id hR4.out
      clear hst6 cG6
      go_wp2_with fail
      go_loopw [7, 70] (fun ev i wr => ∃ (k : Nat) (er : Int), k ≤ n ∧ i = .int .i64 (k : Int) ∧ ev = .int .i64 er ∧ DevAt w4.heap.size w5.heap.size es k L wr ∧ Below w4.heap.size w6 wr ∧ Has wr w5.heap.size [.pointer (some ⟨L.g, 0, none⟩)] 36)
        (fun _ i _ => n - (intOf i).toNat)
      case atStart => exact ⟨0, 0, Nat.zero_le _, rfl, rfl, hDA.out, Below.refl _ _, hDb.out⟩
      case round =>
        obtain ⟨k, er, hk, rfl, rfl, hDk, hBk, hDbk⟩ := hrel
        have hB4k := hB46.out.trans (hBk.mono (Nat.le_refl _))
        have hsk := hBk.size
        by_cases hlt : k < n
        · obtain ⟨e, he1, he3⟩ : ∃ e, es[k]? = some e ∧ e ∈ es := ⟨es[k]'(by omega), List.getElem?_eq_getElem (by omega), List.getElem_mem _⟩
          obtain ⟨oa', oc', hoe, hoc⟩ := hR4.out.kept hB4k
          simp only [Value.slice.injEq, true_and] at hoe
          obtain ⟨rfl, rfl⟩ := hoe
          rcases hoc with ⟨h0, _⟩ | ⟨ob, oo, rfl, hoc⟩
          · omega
          have hce := fun j v hj => hoc (k * 8 + j) v (evCells_get es k e he1 j v hj)
          have q0 : wr.cell? ⟨ob, oo + k * 8, none⟩ = some (.int .u8 (e.k : Int)) := hce 0 _ rfl
          have q1 : wr.cell? ⟨ob, oo + k * 8 + 1, none⟩ = some (.int .i64 (e.t : Int)) := hce 1 _ rfl
          have q2 : wr.cell? ⟨ob, oo + k * 8 + 2, none⟩ = some (.int .u64 (e.off : Int)) := hce 2 _ rfl
          have q3 : wr.cell? ⟨ob, oo + k * 8 + 3, none⟩ = some (.int .u64 (e.val : Int)) := hce 3 _ rfl
          have q4 : wr.cell? ⟨ob, oo + k * 8 + 4, none⟩ = some (.int .u64 (e.old : Int)) := hce 4 _ rfl
          have q5 : wr.cell? ⟨ob, oo + k * 8 + 5, none⟩ = some (.int .i64 (e.line : Int)) := hce 5 _ rfl
          have q6 : wr.cell? ⟨ob, oo + k * 8 + 6, none⟩ = some (.int .i64 e.n) := hce 6 _ rfl
          have q7 : wr.cell? ⟨ob, oo + k * 8 + 7, none⟩ = some (e.ch) := hce 7 _ rfl
          obtain ⟨cha, chl, chc, hch', _⟩ := (heg.out e he3).ch
          have hkI : (k : Int) < (n : Int) := by omega
          obtain ⟨wb, hwb⟩ : ∃ wb, wb = wr.alloc (.cells #[.int .u8 (e.k : Int), .int .i64 (e.t : Int), .int .u64 (e.off : Int), .int .u64 (e.val : Int), .int .u64 (e.old : Int), .int .i64 (e.line : Int), .int .i64 e.n, .slice cha chl chc] 30) := ⟨_, rfl⟩
          have hBw : Below wr.heap.size wr wb := by rw [hwb]; exact (Below.refl _ _).alloc (Nat.le_refl _) _
          have hst := (hDk.below hBw).step (by have := hBw.size; omega) (by omega) heg.out e he1
          rw [hch'] at hst q7
          have hBkb := hBk.trans (hBw.mono (by omega))
          have hDbb := hDbk.only (Only.of_below hBw) (Nat.not_le.2 hDbk.lt)
          have cDb := hDbb.cell (o := 0) rfl
          rw [hwb] at cDb
          replace hst := Lib.hid hst
          replace hwb := Lib.hid hwb
          clear hoc hce hDk hBw hBk hB4k hDbk
          replace hch' := Lib.hid hch'
          go_wp2_with fail
          rw [show wr.alloc (.cells #[.int .u8 (e.k : Int), .int .i64 (e.t : Int), .int .u64 (e.off : Int), .int .u64 (e.val : Int), .int .u64 (e.old : Int), .int .i64 (e.line : Int), .int .i64 e.n, .slice cha chl chc] 30) = wb from hwb.out.symm]
          refine hst.out.mono ?_
          rintro x wc ⟨b, er', rfl, her, hDc, hBc, S, hoc, hnS⟩
          have hDbc := hDbb.only hoc hnS
          have cDc := hDbc.cell (o := 0) rfl
          have fDc := hDbc.free 0
          have hrel' := Lib.hid (show DevAt w4.heap.size w5.heap.size es (k + 1) L (wc.setCell ⟨w5.heap.size, 0, none⟩ (.pointer (some ⟨L.g, 0, none⟩))) ∧ Below w4.heap.size w6 (wc.setCell ⟨w5.heap.size, 0, none⟩ (.pointer (some ⟨L.g, 0, none⟩))) ∧ Has (wc.setCell ⟨w5.heap.size, 0, none⟩ (.pointer (some ⟨L.g, 0, none⟩))) w5.heap.size [.pointer (some ⟨L.g, 0, none⟩)] 36 from
            ⟨hDc.set 0 _, (hBkb.trans hBc).setCell (p := ⟨w5.heap.size, 0, none⟩) hs5 _, hDbc.set 0 _⟩)
          clear hst hDc hBc hBkb q0 q1 q2 q3 q4 q5 q6 q7 hDbb hDbc hoc cDb
          rcases her with rfl | rfl
          · go_wp2_with fail
            exact ⟨⟨k + 1, 0, by omega, by go_num, rfl, hrel'.out⟩, by simp [intOf]; omega⟩
          · go_wp2_with fail
            exact ⟨⟨k + 1, 2, by omega, by go_num, rfl, hrel'.out⟩, by simp [intOf]; omega⟩
        · obtain rfl : k = n := by omega
          have hkI : ¬ (k : Int) < (k : Int) := by omega
          obtain ⟨FD, hD, hPr, _, _, _⟩ := hDk
          rw [List.take_of_length_le (by omega)] at hD hPr
          have hD := hD.up (T' := 60) (by omega) (by omega)
          have hGr := hG4.out.only (Only.of_below hB4k) (fun k _ h => Nat.not_le.2 h)
          have hGbr := hGb.out.only (Only.of_below hB4k) (Nat.not_le.2 hGb.out.lt)
          have hBr := hBb.out.trans (hB4k.mono hBb.out.size)
          have hstO := hGr.st.ok
          have hstN : (runP 4 es).G.n = 4 := runP_n 4 es
          have hl4 : (devRun 4 es).lines.length ≤ 6 := by rw [hPr.n, hstN]; decide
          have hcn := Dev.cnt_few hD.ok hl4
          have hcw := fun N => cut_words hPr hD.ok hstO hcg N
          have hac := fun x => at_cut hPr hstO hcg x
          have hps := prod_same hPr
          have hcc := fun d => Dev.ccount_any (hD.drewN d)
          rw [hcn, hps] at hcc
          have hfw := Dev.few hD.ok hl4
          rw [hps] at hfw
          have hc := count_any g (runP 4 es).G wr hGr.st
          rw [cntP_prod, if_pos (by omega)] at hc
          have cG := hGbr.cell (o := 0) rfl
          have cD := hDbk.cell (o := 0) rfl
          have htk : 2 ≤ prodB (bsG (runP 4 es).G) (runP 4 es).G.n := by rw [hstN]; exact htwo
          have hcls := taken_closed hstO hcg
          generalize devRun 4 es = R at *
          generalize (runP 4 es).G = G at *
          generalize hP : prodB (bsG G) G.n = P at *
          replace hP := Lib.hid hP
          replace hcw := Lib.hid hcw
          replace hac := Lib.hid hac
          replace hcc := Lib.hid hcc
          replace hc := Lib.hid hc
          replace hGr := Lib.hid hGr
          replace hD := Lib.hid hD
          replace hps := Lib.hid hps
          replace hcls := Lib.hid hcls
          clear hcn hPr hG4 hGb hBb hDA hDb hB46 hR4 hB4k hBk htwo hl4
          have hcv : cntV (some P) = .tuple #[.int .u64 (P : Int), .bool true] := rfl
          replace hc := hc.out
          rw [hcv] at hc
          replace hc := Lib.hid hc
          replace hcv := Lib.hid hcv
          go_wp2_with fail
          refine hc.out.mono ?_
          rintro x w8 ⟨rfl, m8, hw8⟩
          have hw8' := hw8.symm
          subst hw8'
          have cD8 : (wr.drewN m8).cell? ⟨w5.heap.size, 0, none⟩ = some (.pointer (some ⟨L.g, 0, none⟩)) := by simpa using cD
          clear hc hw8
          go_wp2_with fail
          refine (hcc.out m8).mono ?_
          rintro x w8 ⟨rfl, hB8⟩
          have hBr8 : Below wr.heap.size wr w8 := (below_drewN (Below.refl wr.heap.size wr) m8).trans hB8
          have hG8 := hGr.out.only (Only.of_below hBr8) (fun k _ h => Nat.not_le.2 h)
          have hD8 := hD.out.below hBr8
          have hGb8 := hGbr.only (Only.of_below hBr8) (Nat.not_le.2 hGbr.lt)
          have hDb8 := hDbk.only (Only.of_below hBr8) (Nat.not_le.2 hDbk.lt)
          have hB08 := hBr.trans (hBr8.mono hBr.size)
          have hRs8 := hRs.out.only (Only.of_below hB08) (Nat.not_le.2 hRs.out.lt)
          have hBW8 := hb0.out.trans (hB08.mono hb0.out.size)
          have fR8 := hRs8.free 0
          have cR8 := hRs8.cell (o := 0) rfl
          have hR8t := (hRs8.set 0 (.bool true)).cell (o := 0) rfl
          have hearly : post (.returned (.bool true)) (w8.setCell ⟨W.heap.size, 0, none⟩ (.bool true)) := by
            rw [← hpost.out]; exact ⟨rfl, hBW8.setCell (p := ⟨W.heap.size, 0, none⟩) (Nat.le_refl _) _⟩
          have hd0 : ((P : Int) == (P : Int)) = true := by simp
          have hd1 : decide ((P : Int) < 2) = false := decide_eq_false (by omega)
          have hd2 : decide (P < 2) = false := decide_eq_false (by omega)
          replace hearly := Lib.hid hearly
          clear hcc cD8 hGr hD hGbr hDbk hBr cG cD
          by_cases hbig : 256 < P
          · have hbI : decide ((256 : Int) < (P : Int)) = true := decide_eq_true (by omega)
            have hbN : decide (256 < P) = true := decide_eq_true hbig
            go_wp2_with fail
            exact ⟨.bool true, by simp [results, Try.results3, go_sem, hR8t], hearly.out⟩
          · have hbI : decide ((256 : Int) < (P : Int)) = false := decide_eq_false (by omega)
            have hbN : decide (256 < P) = false := decide_eq_false hbig
            obtain ⟨wc, hwc⟩ : ∃ wc, wc = w8.alloc (.cells #[.slice none 0 0] 45) := ⟨_, rfl⟩
            have hbc : Below w8.heap.size w8 wc := by rw [hwc]; exact (Below.refl _ _).alloc (Nat.le_refl _) _
            have hKc : Has wc w8.heap.size [.slice none 0 0] 45 := by rw [hwc]; exact Has.new w8 [.slice none 0 0] 45
            have cGc := (hGb8.only (Only.of_below hbc) (Nat.not_le.2 hGb8.lt)).cell (o := 0) rfl
            have hszc := Lib.hid (show wc.heap.size = w8.heap.size + 1 by rw [hwc]; simp)
            rw [hwc] at cGc
            replace hwc := Lib.hid hwc
            go_wp2_with fail
            rw [show w8.alloc (.cells #[.slice none 0 0] 45) = wc from hwc.out.symm]
            refine (call_cuts _ _ _).mono ?_
            rintro e w9 ⟨rfl, hB9, hg1, hg2⟩
            clear cGc
            have hz9 := World.block_lt_of_cell? _ _ hg2
            simp only at hz9
            have hb9 : Below w8.heap.size w8 w9 := hbc.trans (hB9.mono hbc.size)
            have hK9 := hKc.only (Only.of_below hB9) (Nat.not_le.2 hKc.lt)
            have hlc := hKc.lt
            have hseq : ∀ Wx, Below w9.heap.size w9 Wx → SeqOwn Fence.wide 2 Try.prog 53 #[.pointer (some ⟨wc.heap.size, 0, none⟩), .pointer (some ⟨wc.heap.size + 1, 0, none⟩)] (fun x : Value × Nat => #[x.1]) (fun k => k < w8.heap.size ∨ k = wc.heap.size ∨ k = wc.heap.size + 1) (GivC G) (SeqC G 256) (fun _ => True) (256 : Int).toNat Wx := fun Wx hb =>
              cuts_own 2 _ _ g G 256 w8 Wx hG8.st (Bl.of_below (hb9.trans (hb.mono hb9.size)) (Nat.le_refl _)) (by omega) ((hb.cell (World.block_lt_of_cell? _ _ hg1)).trans hg1) ((hb.cell (World.block_lt_of_cell? _ _ hg2)).trans hg2)
            have hI0 : ∀ c : Nat → Prop, (∀ k, c k → w9.heap.size ≤ k) → CutsI G c w8 w9.heap.size [] w9 := fun c hc => ⟨none, 0, hK9, World.ownsRow_nil _ _ _ _, fun k hk => (by cases hk), hb9, Nat.le_refl _⟩
            have hs9 := hb9.size
            replace hseq := Lib.hid hseq
            replace hI0 := Lib.hid hI0
            replace hG8 := Lib.hid hG8
            replace hD8 := Lib.hid hD8
            replace hRs8 := Lib.hid hRs8
            replace hBW8 := Lib.hid hBW8
            have hlR := hRs8.out.lt
            have hlG := hGb8.lt
            have hlD := hDb8.lt
            replace hGb8 := Lib.hid hGb8
            replace hDb8 := Lib.hid hDb8
            clear hbc hKc hB9 hK9 hg1 hg2 hb9 cR8 fR8 hR8t hearly hB8 hBr8 hB08
            go_wp2_with fail
            refine wp_rangeFunc_roll2 (α := Value × Nat) (q := 17) (gf := 53) (lb := #[.pointer (some ⟨wc.heap.size, 0, none⟩), .pointer (some ⟨wc.heap.size + 1, 0, none⟩)]) rfl (enters_of Try.func53 (by kernel_rfl) rfl) (enc := fun x => x.1) (r := fun k => k < w8.heap.size ∨ k = wc.heap.size ∨ k = wc.heap.size + 1) (Giv := GivC G)
              (S := SeqC G 256) (Sp := fun _ => True) (N := (256 : Int).toNat) hseq.out (fun k hk => by omega) ?hGiv
              (fun c pre A => CutsI G c w8 w9.heap.size pre A)
              (fun c j pre A => False) ?hI ?hIx hI0.out ?assign ?body ?done ?stop
            case hGiv =>
              rintro c pre x A l o o' hl hlo ho ⟨h1, h2, ⟨a, cap', h3, h4⟩, h5⟩
              refine ⟨h1, h2, ⟨a, cap', h3, ?_⟩, fun k hk => by have := h5 k hk; have := (grownBy_putObj' A l o').size; omega⟩
              rcases h4 with h4 | ⟨b, off, h6, h4⟩
              · exact .inl h4
              · refine .inr ⟨b, off, h6, fun j u hj => ?_⟩
                have hc := h4 j u hj
                have hr : Roll l (fun _ => False) A (A.putObj l o') := Roll.putObj o' (Nat.le_refl _) hlo ho
                exact hr.cell (fun h => h) hc
            case hI =>
              rintro c pre A E hc h hr
              exact h.roll hc (by omega) hr
            case hIx =>
              intro c j pre A E hc h
              exact h.elim
            case assign =>
              intro l x A K hK
              gi_wp2
              exact hK
            case stop =>
              rintro D c j pre A hD hc _ h hK
              exact h.elim
            case body =>
              rintro l c pre ⟨v, k0⟩ A hc ⟨sa, sc, h1, h2, h3, h4, h5⟩ ⟨hx1, hxP, hxr, hxc⟩ hlen
              simp only at hx1 hxP hxr
              subst hx1
              have hBlA : Bl w8 A := Bl.of_below h4 (Nat.le_refl _)
              have cGA := (hBlA.has hGb8.out).cell (o := 0) rfl
              have hGA := hG8.out.only (Only.of_below h4) (fun k _ h => by omega)
              have hDA := hD8.out.below (h4.mono (Nat.le_refl _))
              have hDbA := hBlA.has hDb8.out
              obtain ⟨e1, e2, e3, e4⟩ := hcw.out pre.length
              have hcl0 := hcls.out pre.length
              have hclN : (cutL G (takenN G pre.length)).length ≤ 20000 := Nat.le_trans (cutK_le G _ _) hstO.wl
              have him := image_any g G v (natsI (cutL G (takenN G pre.length))) A hGA.st (by rw [natsI_len', ← nats_natsI']; exact hxr) (by rw [natsI_len']; omega)
              unfold ImgPost at him
              simp only [hcl0, if_true] at him
              have hnxt := fun (wq w2 : World) (sa' : Option Addr) (sc' : Nat) hq own2 only2 fresh2 => CutsI.next (x := ((v, pre.length) : Value × Nat)) (w2 := w2) (wq := wq) (sa' := sa') (sc' := sc') rfl h1 h2 h3 h4 h5 hq own2 only2 fresh2 (fun k hk => ⟨hc k hk, hxc k hk⟩) (r := fun k => k < w8.heap.size ∨ k = wc.heap.size ∨ k = wc.heap.size + 1) (fun k hk => by omega) (by omega)
              rw [e1] at him hnxt
              rw [hstN] at e2
              have hbl : (Dev.bytesL (cutW R G pre.length)).length = G.n * 64 := by rw [Dev.bytesL_len, e2, hstN]
              rw [← hbl] at him
              have hb4 : (Dev.bytesL (cutW R G pre.length)).length = 4 * 64 := by rw [hbl, hstN]
              have hpo := fun wx (hd : Dev.DevSt wx FD 0 L 60 R) => Dev.possible_any hd (cutW R G pre.length) 4 e2 (by omega) e3
              rw [e4] at hpo
              have h256 := Dev.bytesL_256 (cutW R G pre.length)
              have hin := fun wx b (hb : Has wx b (bytesV (Dev.bytesL (cutW R G pre.length))) 5) => Dev.inew_any wx b _ 4 hb h256 hb4 (by omega)
              have hcvt := fun wx b (hb : Has wx b (bytesV (Dev.bytesL (cutW R G pre.length))) 5) => Dev.conv_has (w := wx) (b := b) hb h256 (Dev.bytesL (cutW R G pre.length)).length
              have hnoK : ∀ k, Value.ownBlock (.slice sa pre.length sc) = some k → w9.heap.size ≤ k := fun k hk => (h3 k hk).1
              have hbyl : (pre.length + 1) * 16 ≤ 140737488355328 := by omega
              have hE0 : ∀ wx, Below A.heap.size A wx → wx.cell? ⟨w5.heap.size, 0, none⟩ = some (.pointer (some ⟨L.g, 0, none⟩)) ∧ Dev.DevSt wx FD 0 L 60 R := fun wx hb => ⟨(hDbA.only (Only.of_below hb) (Nat.not_le.2 hDbA.lt)).cell (o := 0) rfl, hDA.below hb⟩
              have hE1 : ∀ wx, Below A.heap.size A wx → Has wx w8.heap.size [.slice sa pre.length sc] 45 ∧ wx.ownsRow 0 9 1 (.slice sa pre.length sc) pre.length (strV (cutStrs G pre.length)) := fun wx hb => ⟨h1.only (Only.of_below hb) (Nat.not_le.2 h1.lt), ownsRow_only h2 (Only.of_below hb) (fun k hk e => by have := ownsRow_lt h2 hk; omega)⟩
              generalize Dev.bytesL (cutW R G pre.length) = bs at *
              replace him := Lib.hid him
              replace hnxt := Lib.hid hnxt
              replace hpo := Lib.hid hpo
              replace hin := Lib.hid hin
              replace hcvt := Lib.hid hcvt
              replace hE0 := Lib.hid hE0
              replace hE1 := Lib.hid hE1
              replace hbl := Lib.hid hbl
              replace hb4 := Lib.hid hb4
              replace e1 := Lib.hid e1
              replace h256 := Lib.hid h256
              clear hxr hGA hBlA hDA hDbA h1 h2 h3 h4 hcl0 hclN e2 e3 e4
              gi_wp2_with fail
              refine ⟨trivial, ?_⟩
              refine (CallsIn.inRound l (callsIn_wide.2 him.out)).mono ?_
              rintro e wp ⟨pb, rfl, hIm, hBp, hpn⟩
              have hin1 := hin.out wp pb hIm
              replace hin1 := Lib.hid hin1
              clear him
              gi_wp2_with fail
              refine ⟨trivial, ?_⟩
              refine (CallsIn.inRound l (callsIn_wide.2 hin1.out)).mono ?_
              rintro e wn ⟨rfl, hBn⟩
              obtain ⟨wq, hwq⟩ : ∃ wq, wq = wn.alloc (.cells #[.string (Dev.strOf bs)] 53) := ⟨_, rfl⟩
              have hBq : Below wn.heap.size wn wq := by rw [hwq]; exact (Below.refl _ _).alloc (Nat.le_refl _) _
              have hBpq : Below wp.heap.size wp wq := hBn.trans (hBq.mono hBn.size)
              have hBAq : Below A.heap.size A wq := hBp.trans (hBpq.mono hBp.size)
              obtain ⟨cDq, hDq⟩ := hE0.out wq hBAq
              have hpo1 := hpo.out wq hDq
              rw [hwq] at cDq
              replace hpo1 := Lib.hid hpo1
              replace hwq := Lib.hid hwq
              clear hDq hin1 hin
              gi_wp2_with fail
              rw [show wn.alloc (.cells #[.string (Dev.strOf bs)] 53) = wq from hwq.out.symm]
              refine ⟨trivial, ?_⟩
              refine (CallsIn.inRound l (callsIn_wide.2 hpo1.out)).mono ?_
              rintro e wr2 ⟨rfl, hBr2⟩
              have hBpr : Below wp.heap.size wp wr2 := hBpq.trans (hBr2.mono hBpq.size)
              have hBAr : Below A.heap.size A wr2 := hBp.trans (hBpr.mono hBp.size)
              have hImr := hIm.only (Only.of_below hBpr) (Nat.not_le.2 hIm.lt)
              have hcv1 := hcvt.out wr2 pb hImr
              obtain ⟨hKr, hOr⟩ := hE1.out wr2 hBAr
              have cKr := hKr.cell (o := 0) rfl
              have hnx1 := hnxt.out wr2
              replace hnx1 := Lib.hid (fun w2 sa' sc' => hnx1 w2 sa' sc' hBAr)
              have fK2 : ∀ w2, Only (fun k => Value.ownBlock (.slice sa pre.length sc) = some k) wr2 w2 → Has w2 w8.heap.size [.slice sa pre.length sc] 45 := fun w2 ho => hKr.only ho (fun e => by
                have := hnoK w8.heap.size e; omega)
              replace fK2 := Lib.hid fK2
              clear hpo1 hpo hBq hBpq hBAq hBpr hBr2 hBn hIm hImr hKr hE0 hE1 hnxt
              gi_wp2_with (gi_at_builtin; refine wpListIn_app1 rfl (.tmp 138) (.tmp 141) 45 rfl 9 (.string ⟨#[]⟩) 16 Try.underlying45 infoStr rfl (by decide) sa pre.length sc (strV (cutStrs G pre.length)) rfl (.string (Dev.strOf bs)) wr2 rfl (by exact hOr) _ rfl rfl rfl (by exact hbyl) ?_)
              intro sb sd w2 own2 only2 fresh2
              have hfin := Lib.hid (hnx1.out w2 sb sd own2 only2 fresh2)
              have hK2 := fK2.out w2 only2
              have cK2 := hK2.cell (o := 0) rfl
              have fKK := hK2.free 0
              clear own2 only2 fresh2 hK2 hOr cKr hcv1 fK2 hnx1 cDq
              gi_wp2
              exact hfin.out
            case done =>
              rintro D c xs A hD1 hc hS ⟨sa, sc, h1, h2, h3, h4, h5⟩ hK
              replace hS : xs.length = min (256 : Int).toNat (prodB (bsG G) G.n) := hS
              have hxl : xs.length = P := by rw [hS, hP.out]; omega
              rw [hxl] at h1 h2 h3
              have hnb : ∀ k, Value.ownBlock (.slice sa P sc) = some k → k < A.heap.size := fun k hk => ownsRow_lt h2 hk
              have hlA := h4.size
              have hrdA := Rd.of_own h2
              obtain ⟨wa, hwa⟩ : ∃ wa, wa = A.alloc (.cells #[.int .u64 0] 27) := ⟨_, rfl⟩
              have hBa : Below A.heap.size A wa := by rw [hwa]; exact (Below.refl _ _).alloc (Nat.le_refl _) _
              have hN := Has.new A [.int .u64 0] 27
              have hDbA := hDb8.out.only (Only.of_below h4) (Nat.not_le.2 hDb8.out.lt)
              have cDa := (hDbA.only (Only.of_below hBa) (Nat.not_le.2 hDbA.lt)).cell (o := 0) rfl
              rw [hwa] at cDa
              replace hwa := Lib.hid hwa
              clear hseq hI0 hG8 hGb8
              go_wp2_with fail
              rw [show A.alloc (.cells #[.int .u64 0] 27) = wa from hwa.out.symm]
              refine (Dev.call_CAll _ _ _).mono ?_
              rintro e wb ⟨rfl, hBb, hg1, hg2⟩
              clear cDa
              have hzb := World.block_lt_of_cell? _ _ hg2
              simp only at hzb
              have hBab : Below A.heap.size A wb := hBa.trans (hBb.mono hBa.size)
              have hNb := (show Has wa A.heap.size [.int .u64 0] 27 by rw [hwa.out]; exact hN).only (Only.of_below hBb) (by have : wa.heap.size = A.heap.size + 1 := (by rw [hwa.out]; simp); omega)
              have hwsz : wa.heap.size = A.heap.size + 1 := by rw [hwa.out]; simp
              have cN := hNb.cell (o := 0) rfl
              have fN := hNb.free 0
              have hDb2 := (hD8.out.below (h4.mono (Nat.le_refl _))).below hBab
              have hseq2 : ∀ Wx, Below wb.heap.size wb Wx → SeqOwn Fence.wide 2 Try.prog 58 #[.pointer (some ⟨wa.heap.size, 0, none⟩), .pointer (some ⟨wa.heap.size + 1, 0, none⟩)] (fun x : Nat => #[.agg #[.string (Dev.strOf (Dev.atB R x))]]) (fun k => k = wa.heap.size + 1)
                  (fun _ pre x _ => x = pre.length ∧ Dev.restR R (Dev.dirtyL R) x = 0) (fun xs => xs.length = min (256 : Int).toNat (Dev.prodL R (Dev.dirtyL R))) (fun _ => True) (256 : Int).toNat Wx := fun Wx hb =>
                Dev.all_own 2 _ _ 256 Wx (by omega) (hDb2.below hb) ((hb.cell (World.block_lt_of_cell? _ _ hg1)).trans hg1) ((hb.cell (World.block_lt_of_cell? _ _ hg2)).trans hg2)
              have hsAb := hBab.size
              have hrow := h1.cell (o := 0) rfl
              replace hseq2 := Lib.hid hseq2
              replace hrdA := Lib.hid hrdA
              replace hrow := Lib.hid hrow
              replace hS := Lib.hid hS
              replace hxl := Lib.hid hxl
              replace hK := Lib.hid hK
              replace hwsz := Lib.hid hwsz
              replace h4 := Lib.hid h4
              clear hg1 hg2 hDb2 hNb hN hBa hBb h2 h3 hDbA
              go_wp2_with fail
              refine wp_rangeFunc_rollB (α := Nat) (q := 23) (gf := 58) (lb := #[.pointer (some ⟨wa.heap.size, 0, none⟩), .pointer (some ⟨wa.heap.size + 1, 0, none⟩)]) rfl (enters_of Try.func58 (by kernel_rfl) rfl) (enc := fun x => .agg #[.string (Dev.strOf (Dev.atB R x))]) (r := fun k => k = wa.heap.size + 1) (Giv := fun _ pre x _ => x = pre.length ∧ Dev.restR R (Dev.dirtyL R) x = 0)
                (S := fun xs => xs.length = min (256 : Int).toNat (Dev.prodL R (Dev.dirtyL R))) (Sp := fun _ => True) (N := (256 : Int).toNat) hseq2.out (fun k hk => by omega) (fun _ _ _ _ _ _ _ _ _ _ h => h)
                (fun c pre A2 => A2.cell? ⟨A.heap.size, 0, none⟩ = some (.int .u64 (pre.length : Int)) ∧ A2.frozen? ⟨A.heap.size, 0, none⟩ = false ∧ Below A.heap.size A A2)
                (fun c j pre A2 => False) ?hI2 ?hIx2 (fun c _ => ⟨cN, fN, hBab⟩) (fun x => [.string (Dev.strOf (Dev.atB R x))]) 53 (fun _ _ _ _ _ h => h) ?assign2 ?body2 ?done2 ?stop2
              case hI2 =>
                rintro c pre A2 E hc ⟨q1, q2, q3⟩ hr
                have hw := hwsz.out
                have hn : ¬ c A.heap.size := fun e => by have := hc _ e; omega
                exact ⟨hr.cell hn q1, hr.frozen hn q1 q2, hr.below hc (by omega) q3 (Nat.le_refl _)⟩
              case hIx2 =>
                intro c j pre A2 E hc h
                exact h.elim
              case assign2 =>
                intro l x A2 K hK
                gi_wp2
                exact hK
              case stop2 =>
                rintro D2 c j pre A2 hD2 hc _ h hK2
                exact h.elim
              case body2 =>
                rintro l c pre x b A2 hc hb hbx ⟨q1, q2, q3⟩ ⟨rfl, hrz⟩ hlen
                have hw := hwsz.out
                obtain ⟨N, hN1, hN2⟩ := hac.out pre.length
                have hmem : Dev.strOf (Dev.atB R pre.length) ∈ cutStrs G P := by
                  unfold cutStrs
                  rw [← hN2]
                  exact List.mem_map_of_mem (List.mem_range.2 hN1)
                have hbl2 : 0 < (Dev.atB R pre.length).length := by
                  unfold Dev.atB
                  rw [Dev.bytesL_len, Dev.crashW_len hD8.out.ok]
                  have := hD8.out.ok.n1; omega
                have hI2 : ∀ wx, Calls Try.prog 19 #[.agg #[.string (Dev.strOf (Dev.atB R pre.length))]] wx (Dev.SPost wx (Dev.strOf (Dev.atB R pre.length))) := fun wx =>
                  (Dev.ibytes_any wx (Dev.atB R pre.length) (Dev.bytesL_256 _)).mono fun e w' h => h.s (Dev.bytesL_256 _) hbl2
                generalize Dev.strOf (Dev.atB R pre.length) = st at *
                have hlS := cutStrs_len G P
                have hct : ∀ wx, Below A2.heap.size A2 wx → Calls Try.prog 18 #[.slice sa P sc, .string st] wx fun e w' => e = .returned (.bool true) ∧ wx = w' := fun wx hx => by
                  have := hrdA.out.kept (q3.trans (hx.mono q3.size))
                  have h2 := contains_yes sa sc (cutStrs G P) st wx (by rw [hlS]; exact this) hmem (by omega)
                  rw [hlS] at h2
                  exact h2
                have hcA : ∀ wx, Below A2.heap.size A2 wx → wx.cell? ⟨w8.heap.size, 0, none⟩ = some (.slice sa P sc) ∧ wx.cell? ⟨b, 0, none⟩ = some (.string st) := fun wx hx =>
                  ⟨((q3.trans (hx.mono q3.size)).cell (p := ⟨w8.heap.size, 0, none⟩) (World.block_lt_of_cell? _ _ hrow.out)).trans hrow.out, (hbx.only (Only.of_below hx) (Nat.not_le.2 hbx.lt)).cell (o := 0) rfl⟩
                replace hI2 := Lib.hid hI2
                replace hct := Lib.hid hct
                replace hcA := Lib.hid hcA
                have kB : Below A2.heap.size A2 A2 := Below.refl _ _
                have hsA2 := q3.size
                clear hmem hN1 hN2 hbl2 hrz hbx hlS
                gi_wp2_with fail
                refine wpIn_region_part (fun _ => trivial) (fun h => (by cases h)) (fun f args w R c => CallsIn.inRound l (callsIn_wide.2 c)) [2, 4] [[], []] [(3, [0])] (AllC A2 st) (by kernel_rfl) (by kernel_rfl) (by kernel_rfl) ?hnd (AllC.start A2 st) (AllC.ex hI2.out hct.out) (fun Hf hx => ?_)
                case hnd =>
                  intro i o ho c'
                  match i with
                  | 0 | 1 | 2 | 3 | 4 | 5 => simp at ho; subst ho; simp
                  | i + 6 => simp at ho
                obtain ⟨w', hx⟩ := hx
                have v1e := hx.c1 _ rfl
                have hs0 := hx.c0 _ rfl
                obtain ⟨v, hv⟩ : ∃ v, Hf 0 = v := ⟨_, rfl⟩
                refine part_chunk [] 2 0 _ _ (by kernel_rfl) (by kernel_rfl) (by decide) ?_
                simp only [List.take_succ_cons, List.take_zero, List.drop_succ_cons, List.drop_zero]
                go_big_quiet_want
                go_big_quiet_op
                refine ⟨.slice sa P sc, fun wx hx => by simp [go_sem, (hcA.out wx (AllC.at hx)).1], ?_⟩
                go_big_quiet_on
                go_big_quiet_want
                go_big_quiet_op
                refine ⟨.agg #[.string st], fun wx hx => by simp [go_sem, (hcA.out wx (AllC.at hx)).2], ?_⟩
                go_big_quiet_on
                refine wpQuiet_nil ?_
                refine part_step (s := 0) hv (by go_simp; exact rfl) (by kernel_rfl) (by kernel_rfl) (fun H wx hs hn hp hc => ?_) ?_
                · exact callUpon_mk (f := 19) (args := #[.agg #[.string st]]) (by simp [go_sem]) (hc.call0 hI2.out)
                refine part_chunk [0] 1 3 _ _ (by kernel_rfl) (by kernel_rfl) (by decide) ?_
                simp only [List.take_succ_cons, List.take_zero, List.drop_succ_cons, List.drop_zero]
                go_big_quiet_want
                go_big_quiet_op
                refine ⟨.string st, fun wx hx => by rw [AllC.conv hx hv]; exact ⟨rfl, rfl⟩, ?_⟩
                go_big_quiet_on
                refine wpQuiet_nil ?_
                refine part_step (s := 1) v1e (by go_simp; exact rfl) (by kernel_rfl) (by kernel_rfl) (fun H wx hs hn hp hc => ?_) ?_
                · exact callUpon_mk (f := 18) (args := #[.slice sa P sc, .string st]) (by simp [go_sem]) (hc.call1 hct.out)
                refine part_chunk [] 1 5 _ _ (by kernel_rfl) (by kernel_rfl) (by decide) ?_
                simp only [List.take_succ_cons, List.take_zero, List.drop_succ_cons, List.drop_zero]
                iterate 1 (go_big_quiet_want; go_big_quiet_op; first | go_big_quiet_on | (refine ⟨_, fun _ _ => rfl, ?_⟩; go_big_quiet_on))
                refine wpQuiet_nil ?_
                intro wz hz
                have hAz := hz.b
                have n1 := (hAz.cell (World.block_lt_of_cell? _ _ q1)).trans q1
                have nf := (hAz.frozen (p := ⟨A.heap.size, 0, none⟩) (World.block_lt_of_cell? _ _ q1)).trans q2
                have hu : IntKind.u64.wrap ((pre.length : Int) + 1) = (pre.length : Int) + 1 := IntWalk.u64_in _ (by omega)
                have hl2' : (pre ++ [pre.length]).length = pre.length + 1 := by rw [List.length_append, List.length_singleton]
                have hn : ¬ c A.heap.size := fun e => by have := hc _ e; omega
                have hk1 : KeepsFrom wb.heap.size A2 wz := ⟨hAz.size, fun k o _ hk _ => (hAz.block k (Array.getElem?_eq_some_iff.1 hk).1).trans hk⟩
                have hk0 : KeepsFrom wb.heap.size A2 (wz.setCell ⟨A.heap.size, 0, none⟩ (.int .u64 ((pre.length : Int) + 1))) := hk1.trans ((KeepsOthers.setCell _ _ _).from _)
                have hne : ¬ (c A.heap.size ∨ A.heap.size = wa.heap.size + 1) := fun e => by
                  rcases e with e | e
                  · exact hn e
                  · omega
                have hkb : KeepB (fun k => c k ∨ k = wa.heap.size + 1) A2 (wz.setCell ⟨A.heap.size, 0, none⟩ (.int .u64 ((pre.length : Int) + 1))) := (KeepB.of_below hAz (Nat.le_refl _)).setCell _ hne
                have hb5 : Below A.heap.size A (wz.setCell ⟨A.heap.size, 0, none⟩ (.int .u64 ((pre.length : Int) + 1))) := (q3.trans (hAz.mono q3.size)).setCell (p := ⟨A.heap.size, 0, none⟩) (Nat.le_refl _) _
                have nN : (wz.setCell ⟨A.heap.size, 0, none⟩ (.int .u64 ((pre.length : Int) + 1))).cell? ⟨A.heap.size, 0, none⟩ = some (.int .u64 ((pre.length : Int) + 1)) := World.cell?_setCell_same' _ _ _ (by rw [n1]; rfl)
                have hfin := Lib.hid (show KeepsFrom wb.heap.size A2 (wz.setCell ⟨A.heap.size, 0, none⟩ (.int .u64 ((pre.length : Int) + 1))) ∧ KeepB (fun k => c k ∨ k = wa.heap.size + 1) A2 (wz.setCell ⟨A.heap.size, 0, none⟩ (.int .u64 ((pre.length : Int) + 1))) ∧
                  (wz.setCell ⟨A.heap.size, 0, none⟩ (.int .u64 ((pre.length : Int) + 1))).cell? ⟨A.heap.size, 0, none⟩ = some (.int .u64 (((pre ++ [pre.length]).length : Nat) : Int)) ∧ (wz.setCell ⟨A.heap.size, 0, none⟩ (.int .u64 ((pre.length : Int) + 1))).frozen? ⟨A.heap.size, 0, none⟩ = false ∧ _ from
                  ⟨hk0, hkb, by rw [hl2', nN]; rfl, by rw [World.frozen?_setCell]; exact nf, hb5⟩)
                replace hu := Lib.hid hu
                have hu2 := hu.out
                clear hk0 hk1 hkb hb5 nN hl2' hAz hz hx hs0 hne q1 q2 q3
                gi_wp2
                exact hfin.out
              case done2 =>
                rintro D2 c xs2 A2 hD2 hc hS2 ⟨q1, q2, q3⟩ hK2
                replace hS2 : xs2.length = min (256 : Int).toNat (Dev.prodL R (Dev.dirtyL R)) := hS2
                have hxl2 : xs2.length = P := by rw [hS2, hps.out]; omega
                rw [hxl2] at q1
                have hBW := hBW8.out.trans ((h4.out.trans (q3.mono hlA)).mono hBW8.out.size)
                have hw := hwsz.out
                have h8A2 : Below w8.heap.size w8 A2 := h4.out.trans (q3.mono hlA)
                have hRtA := hRs8.out.only (Only.of_below h8A2) (Nat.not_le.2 hRs8.out.lt)
                have fRA := hRtA.free 0
                have cRA := hRtA.cell (o := 0) rfl
                have cKA := (q3.cell (p := ⟨w8.heap.size, 0, none⟩) (World.block_lt_of_cell? _ _ hrow.out)).trans hrow.out
                have hd0' : ((P : Int) == (P : Int)) = true := by simp
                have hu : IntKind.u64.wrap (P : Int) = (P : Int) := IntWalk.u64_in _ (by omega)
                have hD1l : D < A.heap.size := (Array.getElem?_eq_some_iff.1 hK.out).1
                have hKD : A2.heap[D]? = some (.deferred (some [])) := (q3.block D hD1l).trans hK.out
                have hne8 : D ≠ W.heap.size := by have := hRs8.out.lt; omega
                have hne82 : D2 ≠ W.heap.size := by have := hRs8.out.lt; omega
                have hneD : D ≠ D2 := by omega
                have hR7 := hRtA.set 0 (.bool true)
                have hK6 : (A2.setCell ⟨W.heap.size, 0, none⟩ (.bool true)).heap[D2]? = some (.deferred (some [])) := by
                  rw [heap_setCell_ne (by show D2 ≠ W.heap.size; exact hne82)]; exact hK2
                have hK7 : (A2.setCell ⟨W.heap.size, 0, none⟩ (.bool true)).heap[D]? = some (.deferred (some [])) := by
                  rw [heap_setCell_ne (by show D ≠ W.heap.size; exact hne8)]; exact hKD
                have hB6 : Below W.heap.size W (A2.setCell ⟨W.heap.size, 0, none⟩ (.bool true)) := hBW.setCell (p := ⟨W.heap.size, 0, none⟩) (Nat.le_refl _) _
                have hP1 := Roll.putObj (D := wb.heap.size) (c := fun _ => False) (.deferred none) hD2 hK6 rfl
                have hK8 : ((A2.setCell ⟨W.heap.size, 0, none⟩ (.bool true)).putObj D2 (.deferred none)).heap[D]? = some (.deferred (some [])) := (World.putObj_heap_other hneD).trans hK7
                have hP2 := Roll.putObj (D := w9.heap.size) (c := fun _ => False) (.deferred none) hD1 hK8 rfl
                have hlRW := hRs8.out.lt
                have cR8 := hP2.cell (p := ⟨W.heap.size, 0, none⟩) (fun h => h) (hP1.cell (p := ⟨W.heap.size, 0, none⟩) (fun h => h) (hR7.cell (o := 0) rfl))
                have hB7 := hP2.below (fun _ h => h.elim) (by omega) (hP1.below (fun _ h => h.elim) (by omega) hB6 (Nat.le_refl _)) (Nat.le_refl _)
                replace hK6 := Lib.hid hK6
                replace hK8 := Lib.hid hK8
                replace cR8 := Lib.hid cR8
                replace hB7 := Lib.hid hB7
                replace hS2 := Lib.hid hS2
                replace hxl2 := Lib.hid hxl2
                replace hu := Lib.hid hu
                have hu2 := hu.out
                clear hP1 hP2 hR7 hB6 hK7 hKD hK2 hBW h8A2 hRtA
                go_wp2_with fail
                refine ⟨by simp, .inl ⟨_, _, rfl, run_takeDeferred hK6.out, ?_⟩⟩
                refine ⟨by simp, .inl ⟨_, _, rfl, run_takeDeferred hK8.out, ?_⟩⟩
                refine ⟨.bool true, by simp [results, Try.results3, go_sem, cR8.out], ?_⟩
                rw [← hpost.out]
                exact ⟨rfl, hB7.out⟩
end Go.Proofs.Ytjmdibgncaljaaa
