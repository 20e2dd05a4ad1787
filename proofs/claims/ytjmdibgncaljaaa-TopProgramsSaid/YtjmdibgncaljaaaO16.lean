/- The run of a script in memory: graph, current words, notes. Plain step functions. The walk of run.store. The builtin clear of a map that the call owns. One event of a run, as data. The walk of run.execute: stores. The walk of run.execute: compare and swap. The walk of run.execute: flush. The walk of run.execute: write back. The walk of run.execute: fence. The walk of run.execute, all kinds; what New lays. -/
import Derived.Test.YtjmdibgncaljaaaO4
import Derived.Maps.Own
import Derived.Maps.OwnOps
import Derived.Maps.RangeWalk
import Derived.Deep.RegionHeld3
import Derived.Deep.AppendLies
import Derived.Deep.RegionLaw
import Derived.StillTailTactics
namespace Go.Proofs.Ytjmdibgncaljaaa
open Go.RowKit Go.Maps

/-- A run as data. -/
structure Rn where
  G : Gr
  cur : Nat → Nat
  note : Nat → Nat → Option Nat

theorem key42 : Keyed Try.prog 27 := int_keyed Try.underlying27
theorem key3 : Keyed Try.prog 3 := int_keyed Try.underlying3
theorem zero42 (w : World) : (zeroValue 27).run Try.prog w = .ok (.int .u64 0) w := by kernel_rfl
theorem info59 : (Try.prog.info? 133).map (fun i => (i.zero, i.size, i.bytes)) = some (some (.agg #[.int .u64 0, .int .u64 0]), 2, 16) := by kernel_rfl

/-- Block b is the map of the current words. -/
def CurV (w : World) (b T : Nat) (cur : Nat → Nat) : Prop :=
  ∃ D : DataW Unit, w.ownsMap Try.prog 27 (plainElem Try.prog 27) b T D ∧ IsMap D ∧ ∀ k : Nat, k < 18446744073709551616 → D.atKey (.int .u64 k) (.lit (.int .u64 0)) = .lit (.int .u64 (cur k : Int))
/-- Block b is the map of a thread's notes. -/
def NoteV (w : World) (b T n : Nat) (f : Nat → Option Nat) : Prop :=
  ∃ D : DataW Unit, w.ownsMap Try.prog 3 (plainElem Try.prog 3) b T D ∧ IsMap D ∧ (∀ kl : Lit, has D kl = true → ∃ k : Nat, k < n ∧ kl = .int .i64 k) ∧
    (∀ k : Nat, has D (.int .i64 k) = (f k).isSome) ∧ ∀ k c : Nat, f k = some c → ∀ z, D.atKey (.int .i64 k) z = .lit (.int .i64 c)

structure Rn.Ok (R : Rn) (T : Nat) : Prop where
  t : T ≤ 20000
  n1 : 1 ≤ R.G.n
  n2 : R.G.n ≤ 4096
  wl : R.G.ws.length ≤ T
  rl : R.G.rk.length = R.G.ws.length
  cl : R.G.ct.length = R.G.n
  ml : R.G.md.length = R.G.n
  off : ∀ p ∈ R.G.ws, p.1 < 64 * R.G.n ∧ p.2 < 18446744073709551616
  al : ∀ p ∈ R.G.ws, p.1 % 8 = 0
  rb : ∀ r ∈ R.G.rk, r ≤ T
  cb : ∀ c ∈ R.G.ct, c ≤ T
  mc : ∀ k, R.G.md.getD k 0 ≤ R.G.ct.getD k 0
  cu : ∀ k, R.cur k < 18446744073709551616
  no : ∀ t k c, R.note t k = some c → k < R.G.n ∧ c ≤ R.G.ct.getD k 0

structure RunSt (w : World) (B cb mb T : Nat) (R : Rn) : Prop where
  ok : R.Ok T
  cm : cb + mb = 2 * B + 1 ∧ B ≤ cb ∧ B ≤ mb
  rb : Has w (B + 4) [.pointer (some ⟨B + 2, 0, none⟩), .map (some (B + 3)), .map (some (B + 5)), .map (some (B + 6)), .map (some (B + 7)), .map (some (B + 8)), .map (some (B + 9)), .map (some (B + 10)), .map (some (B + 11)), .map (some (B + 12))] 112
  ex : ∃ wa wc ra rc, Has w (B + 2) [.int .i64 (R.G.n : Int), .slice wa R.G.ws.length wc, .slice ra R.G.ws.length rc, .slice (some ⟨cb, 0, none⟩) R.G.n R.G.n, .slice (some ⟨mb, 0, none⟩) R.G.n R.G.n] 106 ∧
    w.ownsRow 0 133 2 (.slice wa R.G.ws.length wc) R.G.ws.length (wcells R.G.ws) ∧ w.ownsRow 0 3 1 (.slice ra R.G.ws.length rc) R.G.ws.length (nats R.G.rk) ∧
    (∀ k, Value.ownBlock (.slice wa R.G.ws.length wc) = some k → B + 13 ≤ k) ∧ (∀ k, Value.ownBlock (.slice ra R.G.ws.length rc) = some k → B + 13 ≤ k) ∧
    ∀ k, Value.ownBlock (.slice wa R.G.ws.length wc) = some k → Value.ownBlock (.slice ra R.G.ws.length rc) ≠ some k
  ct : Has w cb (nats R.G.ct) 3
  md : Has w mb (nats R.G.md) 3
  cv : CurV w (B + 3) T R.cur
  nv : ∀ t, t < 8 → NoteV w (B + 5 + t) T R.G.n (R.note t)

theorem CurV.only {S : Nat → Prop} {w w' : World} {b T : Nat} {cur : Nat → Nat} (h : CurV w b T cur) (ho : Only S w w') (hs : ¬ S b) : CurV w' b T cur := by
  obtain ⟨D, h1, h2⟩ := h
  obtain ⟨es, cl, hb, r⟩ := h1
  exact ⟨D, ⟨es, cl, (ho.block b (heap_lt hb) hs).trans hb, r⟩, h2⟩
theorem NoteV.only {S : Nat → Prop} {w w' : World} {b T n : Nat} {f : Nat → Option Nat} (h : NoteV w b T n f) (ho : Only S w w') (hs : ¬ S b) : NoteV w' b T n f := by
  obtain ⟨D, h1, h2⟩ := h
  obtain ⟨es, cl, hb, r⟩ := h1
  exact ⟨D, ⟨es, cl, (ho.block b (heap_lt hb) hs).trans hb, r⟩, h2⟩
theorem CurV.up {w : World} {b T T' : Nat} {cur : Nat → Nat} (h : CurV w b T cur) (ht : T ≤ T') : CurV w b T' cur := by
  obtain ⟨D, h1, h2⟩ := h; exact ⟨D, h1.mono ht, h2⟩
theorem NoteV.up {w : World} {b T T' n : Nat} {f : Nat → Option Nat} (h : NoteV w b T n f) (ht : T ≤ T') : NoteV w b T' n f := by
  obtain ⟨D, h1, h2⟩ := h; exact ⟨D, h1.mono ht, h2⟩

def storeP (R : Rn) (off v : Nat) : Rn :=
  { R with
    G := { R.G with ws := R.G.ws ++ [(off, v)], rk := R.G.rk ++ [R.G.ct.getD (off / 64) 0], ct := R.G.ct.set (off / 64) (R.G.ct.getD (off / 64) 0 + 1) }
    cur := fun k => if k = off then v else R.cur k }

theorem storeP_ok {R : Rn} {T : Nat} (h : R.Ok T) (hT : T + 1 ≤ 20000) {off v : Nat} (ho : off < 64 * R.G.n) (ha : off % 8 = 0) (hv : v < 18446744073709551616) : (storeP R off v).Ok (T + 1) := by
  have hl : off / 64 < R.G.ct.length := by rw [h.cl]; omega
  have hcl : R.G.ct.getD (off / 64) 0 ≤ T := h.cb _ (mem_getD 0 hl)
  have hget : ∀ k, (R.G.ct.set (off / 64) (R.G.ct.getD (off / 64) 0 + 1)).getD k 0 = if k = off / 64 then R.G.ct.getD (off / 64) 0 + 1 else R.G.ct.getD k 0 := by
    intro k
    by_cases hk : k = off / 64
    · subst hk; rw [if_pos rfl, List.getD, List.getElem?_set_self hl]; rfl
    · rw [if_neg hk, List.getD, List.getElem?_set_ne (Ne.symm hk)]; rfl
  refine ⟨hT, h.n1, h.n2, ?_, ?_, ?_, h.ml, ?_, ?_, ?_, ?_, ?_, ?_, ?_⟩
  · have := h.wl; simp [storeP]; omega
  · have := h.rl; simp [storeP]; omega
  · simpa [storeP] using h.cl
  · intro p hp
    simp only [storeP, List.mem_append, List.mem_singleton] at hp
    rcases hp with hp | rfl
    · exact h.off p hp
    · exact ⟨ho, hv⟩
  · intro p hp
    simp only [storeP, List.mem_append, List.mem_singleton] at hp
    rcases hp with hp | rfl
    · exact h.al p hp
    · exact ha
  · intro r hr
    simp only [storeP, List.mem_append, List.mem_singleton] at hr
    rcases hr with hr | rfl
    · have := h.rb r hr; omega
    · omega
  · exact mem_set_le h.cb (by omega)
  · intro k
    show R.G.md.getD k 0 ≤ (R.G.ct.set _ _).getD k 0
    rw [hget]
    have := h.mc k
    split
    · subst_vars; omega
    · exact this
  · intro k
    show (if k = off then v else R.cur k) < _
    split
    · exact hv
    · exact h.cu k
  · intro t k c hc
    obtain ⟨h1, h2⟩ := h.no t k c hc
    refine ⟨h1, ?_⟩
    show c ≤ (R.G.ct.set _ _).getD k 0
    rw [hget]
    split
    · subst_vars; omega
    · exact h2
end Go.Proofs.Ytjmdibgncaljaaa

namespace Go.Proofs.Ytjmdibgncaljaaa
open Go.RowKit Go.Maps

theorem wcells_snoc (ws : List (Nat × Nat)) (p : Nat × Nat) : wcells (ws ++ [p]) = wcells ws ++ [.int .u64 p.1, .int .u64 p.2] := by simp [wcells]
theorem nats_snoc (l : List Nat) (n : Nat) : nats (l ++ [n]) = nats l ++ [.int .i64 (n : Int)] := by simp [nats]
theorem Only.of_keptBy {S : Nat → Prop} {w w' : World} {row : Option Nat} (h : w.grownBy w' row) (hs : ∀ k, row = some k → S k) : Only S w w' :=
  (Only.of_grown h).mono fun k _ e => hs k e.symm
/-- My append as a step of a region that draws its order: one element of one cell, boxed in block g. -/
theorem step_app1 {P : Program} {w : World} {ops : Array Oper} {o : Oper} {a : Act} {K : Act → World → Prop} {Q : Exit → Act → World → Prop} {E : Prop} (hgd : o.guard = none) (s x : Operand) (t : TypeId)
    (ho : o.op = .call { callee := .builtin .append, args := #[s, x], argTypes := #[t, t] })
    (e : TypeId) (z : Value) (bytes : Nat) (ht : P.underlying t = some (.slice e))
    (hi : (P.info? e).map (fun i => (i.zero, i.size, i.bytes)) = some (some z, 1, bytes)) (hzs : z.cells.size = 1) (hby : 0 < bytes)
    (sa : Option Addr) (n cap : Nat) (xs : List Value) (hs : a.eval s = .slice sa n cap) (u : Value) (hown : w.ownsRow 0 e 1 (.slice sa n cap) n xs)
    (g : Nat) (hx : a.eval x = .slice (some ⟨g, 0, none⟩) 1 1) (hg : w.cell? ⟨g, 0, none⟩ = some u) (h1 : u.oneCell' = true)
    (hbytes : (n + 1) * bytes ≤ 140737488355328)
    (h : ∀ sa' cap' w', w'.ownsRow 0 e 1 (.slice sa' (n + 1) cap') (n + 1) (xs ++ [u]) → Only (fun k => Value.ownBlock (.slice sa n cap) = some k) w w' →
      (∀ k, Value.ownBlock (.slice sa' (n + 1) cap') = some k → Value.ownBlock (.slice sa n cap) = some k ∨ w.heap.size ≤ k) → K (a.put o.dst (.slice sa' (n + 1) cap')) w') :
    if Region.wanted o (yielded ops a.tmps) = true then Oper.wp P o a w K Q else E := by
  have hw : Region.wanted o (yielded ops a.tmps) = true := by simp [Region.wanted, hgd]
  rw [if_pos hw]
  obtain ⟨sa', cap', w', hr, h2, h3, h4⟩ := app_run (P := P) w t o.type e z 1 bytes ht hi hzs (by decide) hby sa n cap xs hown ⟨g, 0, none⟩ 1 1 [u] rfl (by
    intro j y hj
    match j, hj with
    | 0, hj => simp at hj; subst hj; simpa [Addr.add] using hg
    | j + 1, hj => simp at hj) (by simpa using h1) hbytes
  unfold Oper.wp execOp
  simp only [ho, resolve, invoke, builtin, Sem.run_bind, Sem.run_pure, Result.andThen_ok, List.map_toArray, List.map_cons, List.map_nil, hs, hx, hr]
  exact h sa' cap' w' h2 h3 h4

theorem wf_u64 {n : Nat} (h : n < 18446744073709551616) : (Lit.int .u64 (n : Int)).wf = true := by
  simp only [Lit.wf, Bool.and_eq_true, decide_eq_true_eq]
  have e1 : IntKind.min .u64 = 0 := by decide
  have e2 : IntKind.max .u64 = 18446744073709551615 := by decide
  rw [e1, e2]; omega
theorem wf_i64 {n : Nat} (h : n < 9223372036854775808) : (Lit.int .i64 (n : Int)).wf = true := by
  simp only [Lit.wf, Bool.and_eq_true, decide_eq_true_eq]
  have e1 : IntKind.min .i64 = -9223372036854775808 := by decide
  have e2 : IntKind.max .i64 = 9223372036854775807 := by decide
  rw [e1, e2]; omega
theorem CurV.put {w' : World} {b T off v : Nat} {cur : Nat → Nat} {D : DataW Unit} (ho : off < 18446744073709551616) (hD2 : IsMap D)
    (hD3 : ∀ k : Nat, k < 18446744073709551616 → D.atKey (.int .u64 k) (.lit (.int .u64 0)) = .lit (.int .u64 (cur k : Int)))
    (h : w'.ownsMap Try.prog 27 (plainElem Try.prog 27) b T (D.put (.int .u64 off) (.lit (.int .u64 v)))) : CurV w' b T (fun k => if k = off then v else cur k) := by
  refine ⟨_, h, hD2.put _ _, fun k hk => ?_⟩
  show _ = DataW.lit (Lit.int .u64 ((if k = off then v else cur k : Nat) : Int))
  by_cases he : k = off
  · subst he
    rw [if_pos rfl]
    exact atKey_put_same hD2 (key42.key (keyOf_int_mk Try.underlying27 (wf_u64 ho))) _ _
  · rw [if_neg he, atKey_put_other (by intro h; injection h with _ h; omega)]
    exact hD3 k hk

theorem ret_post {post : Ending → World → Prop} {e e' : Ending} {w : World} (h : post e w) (he : e = e') : post e' w := he ▸ h

set_option maxHeartbeats 4000000 in
set_option maxRecDepth 100000 in
theorem store_any (B cb mb T off v : Nat) (R : Rn) (w : World) (h : RunSt w B cb mb T R) (hT : T + 1 ≤ 20000) (ho : off < 64 * R.G.n) (ha : off % 8 = 0) (hv : v < 18446744073709551616) :
    Calls Try.prog 82 #[.pointer (some ⟨B + 4, 0, none⟩), .int .u64 off, .int .u64 v] w fun e w' => e = .returned (.tuple #[]) ∧ RunSt w' B cb mb (T + 1) (storeP R off v) ∧ Below B w w' := by
  have ok := h.ok
  have okS := storeP_ok ok hT ho ha hv
  have hn2 := ok.n2
  have hwl := ok.wl
  have hcm := h.cm
  obtain ⟨wa, wc, ra, rc, hg, how, hor, hwb, hrb, hne⟩ := h.ex
  have hgl := hg.lt
  have hrl := h.rb.lt
  have r0 := h.rb.cell (o := 0) rfl
  have hsz : B + 13 ≤ w.heap.size := by
    obtain ⟨D, ⟨es, cl, hb, _⟩, _⟩ := h.nv 7 (by omega)
    have := heap_lt hb
    omega
  have hoff : off < 18446744073709551616 := by omega
  go_enter Try.func82, Try.ntmps82
  go_wp2_with fail
  go_quiet ((go_at_call 83; exact Calls.quiet_of_same (lineOf_q off _ hoff)))
  have hg0 := hg.drewN nq
  have hl : off / 64 < R.G.ct.length := by rw [ok.cl]; omega
  obtain ⟨ln, hln⟩ : ∃ ln, ln = off / 64 := ⟨_, rfl⟩
  rw [← hln] at hl
  rw [← hln]
  replace hln := Lib.hid hln
  have c1 := hg.cell (o := 1) rfl
  have hW := Has.new (w.drewN nq) [.int .u64 off, .int .u64 v] 133
  have W1 := hW.cell (o := 0) rfl
  have W2 := hW.cell (o := 1) rfl
  have how1 : (w.drewN nq).ownsRow 0 133 2 (.slice wa R.G.ws.length wc) R.G.ws.length (wcells R.G.ws) := how
  go_wp2_with (at_builtin; refine wpList_app rfl (.tmp 18) (.tmp 22) 88 rfl 133 (.agg #[.int .u64 0, .int .u64 0]) 2 16 Try.underlying88 info59 rfl (by decide) (by decide) wa R.G.ws.length wc (wcells R.G.ws) (how1.alloc _) rfl _ 1 1 [.int .u64 off, .int .u64 v] rfl rfl ?hnews (by simp [Value.oneCell']) ?hby ?_)
  case hnews =>
    intro j u hj
    match j, hj with
    | 0, hj => simp at hj; subst hj; exact W1
    | 1, hj => simp at hj; subst hj; exact W2
    | j + 2, hj => simp at hj
  case hby => omega
  intro sa cap w1 own1 only1 fresh1
  have O1 : Only (fun k => Value.ownBlock (.slice wa R.G.ws.length wc) = some k) w w1 := (((Only.refl _ w).drewN nq).alloc _).trans only1
  have hsz1 := O1.size
  have fr1 : ∀ k, Value.ownBlock (.slice sa (R.G.ws.length + 1) cap) = some k → B + 13 ≤ k := by
    intro k hk
    rcases fresh1 k hk with h1 | h1
    · exact hwb k h1
    · first | omega | (simp at h1; omega)
  have nwa : ∀ k, k < B + 13 → ¬ Value.ownBlock (.slice wa R.G.ws.length wc) = some k := fun k hk e => by have := hwb k e; omega
  have g1 := hg.only O1 (nwa _ (by omega))
  have g1c := g1.cell (o := 1) rfl
  have g1f := g1.free 1
  have g2 := g1.set 1 (.slice sa (R.G.ws.length + 1) cap)
  have O2 : Only (fun k => Value.ownBlock (.slice wa R.G.ws.length wc) = some k ∨ k = B + 2) w (w1.setCell ⟨B + 2, 1, none⟩ (.slice sa (R.G.ws.length + 1) cap)) :=
    (O1.mono (S' := fun k => Value.ownBlock (.slice wa R.G.ws.length wc) = some k ∨ k = B + 2) fun k _ hk => Or.inl hk).setCell (a := ⟨B + 2, 1, none⟩) (fun _ => Or.inr rfl) _
  have hcb : cb ≠ B + 2 := by omega
  have hct2 := h.ct.only O2 (by
    rintro (hk | hk)
    · exact nwa _ (by omega) hk
    · omega)
  have hor2 := ownsRow_only hor O2 (by
    rintro k hk (hs | hs)
    · exact hne k hs hk
    · have := hrb k hk; omega)
  have own2 : (w1.setCell ⟨B + 2, 1, none⟩ (.slice sa (R.G.ws.length + 1) cap)).ownsRow 0 133 2 (.slice sa (R.G.ws.length + 1) cap) (R.G.ws.length + 1) (wcells R.G.ws ++ [.int .u64 off, .int .u64 v]) :=
    ownsRow_only own1 ((Only.refl (fun k => k = B + 2) w1).setCell (a := ⟨B + 2, 1, none⟩) (fun _ => rfl) _) (by rintro k hk rfl; have := fr1 _ hk; omega)
  have dj : ∀ k, Value.ownBlock (.slice sa (R.G.ws.length + 1) cap) = some k → ¬ Value.ownBlock (.slice ra R.G.ws.length rc) = some k := by
    intro k hk hk2
    rcases fresh1 k hk with h1 | h1
    · exact hne k h1 hk2
    · have := ownsRow_lt hor hk2
      first | omega | (simp at h1; omega)
  clear own1 g1 only1 fresh1 W1 W2 hW c1 hg0
  go_wp2_with fail
  generalize hw2 : w1.setCell ⟨B + 2, 1, none⟩ (.slice sa (R.G.ws.length + 1) cap) = w2 at *
  replace hw2 := Lib.hid hw2
  have hcc := hct2.cell (o := ln) (nats_get R.G.ct _ _ (get_of_lt 0 hl))
  have hcl : R.G.ct.getD (ln) 0 ≤ T := ok.cb _ (mem_getD 0 hl)
  have q2 := g2.cell (o := 2) rfl
  have q3 := g2.cell (o := 3) rfl
  have q2f := g2.free 2
  have hlI : (ln : Int) < (R.G.n : Int) := by have := ok.cl; omega
  have hl0 : (0 : Int) ≤ (ln : Int) := by omega
  have z2 := g2.lt
  have zc := hct2.lt
  have O2s := O2.size
  generalize hcv : R.G.ct.getD (ln) 0 = cv at *
  replace hcv := Lib.hid hcv
  have nra : ∀ k, k < B + 13 → ¬ Value.ownBlock (.slice ra R.G.ws.length rc) = some k := fun k hk e => by have := hrb k e; omega
  have X2 := (g2.alloc (.cells #[.int .i64 cv] 3)).cell (o := 2) rfl
  have X3 := (g2.alloc (.cells #[.int .i64 cv] 3)).cell (o := 3) rfl
  have X4 := ((Only.refl (fun _ => False) w2).alloc (.cells #[.int .i64 cv] 3)).cell hcc (by simp)
  go_region_law ((refine step_app1 (by rfl) _ _ _ (by rfl) 3 (.int .i64 0) 8 Try.underlying49 info3 (by rfl) (by decide) ra R.G.ws.length rc (nats R.G.rk) (by rfl) (.int .i64 cv) ((hor2.alloc _).drew) w2.heap.size (by rfl) ((Has.new w2 [.int .i64 cv] 3).cell (o := 0) rfl) (by simp [Value.oneCell']) (by omega) ?_; intro sb capb w3 own3 only3 fresh3; have g3 := Has.only (g2.alloc (.cells #[.int .i64 cv] 3)).drew only3 (nra _ (by omega)); have f3 := g3.free 2; have fc3 := g3.cell (o := 2) rfl))
  all_goals
    have nra : ∀ k, k < B + 13 → ¬ Value.ownBlock (.slice ra R.G.ws.length rc) = some k := fun k hk e => by have := hrb k e; omega
    have g4 := g3.set 2 (.slice sb (R.G.ws.length + 1) capb)
    have O3 : Only (fun k => Value.ownBlock (.slice wa R.G.ws.length wc) = some k ∨ Value.ownBlock (.slice ra R.G.ws.length rc) = some k ∨ k = B + 2) w w3 :=
      (((O2.mono (S' := fun k => Value.ownBlock (.slice wa R.G.ws.length wc) = some k ∨ Value.ownBlock (.slice ra R.G.ws.length rc) = some k ∨ k = B + 2) (by rintro k _ (hk | hk); exact Or.inl hk; exact Or.inr (Or.inr hk))).alloc (.cells #[.int .i64 cv] 3)).drew).trans' only3 (fun k _ hk => Or.inr (Or.inl hk))
    have O4 := O3.setCell (a := ⟨B + 2, 2, none⟩) (fun _ => Or.inr (Or.inr rfl)) (.slice sb (R.G.ws.length + 1) capb)
    have nS : ∀ k, k < B + 13 → k ≠ B + 2 → ¬ (Value.ownBlock (.slice wa R.G.ws.length wc) = some k ∨ Value.ownBlock (.slice ra R.G.ws.length rc) = some k ∨ k = B + 2) := by
      rintro k hk hk2 (h1 | h1 | h1)
      · exact nwa k hk h1
      · exact nra k hk h1
      · exact hk2 h1
    have ct4 := h.ct.only O4 (nS _ (by omega) (by omega))
    have hcc4 := ct4.cell (o := ln) (nats_get R.G.ct _ _ (get_of_lt 0 hl))
    rw [hcv.out] at hcc4
    have hcf4 := ct4.free ln
    have q43 := g4.cell (o := 3) rfl
    have own3w : w3.ownsRow 0 133 2 (.slice sa (R.G.ws.length + 1) cap) (R.G.ws.length + 1) (wcells R.G.ws ++ [.int .u64 off, .int .u64 v]) :=
      ownsRow_only (ownsRow_only own2 (((Only.refl (fun _ => False) w2).alloc (.cells #[.int .i64 cv] 3)).drew) (fun _ _ h => h)) only3 dj
    have own4 : (w3.setCell ⟨B + 2, 2, none⟩ (.slice sb (R.G.ws.length + 1) capb)).ownsRow 0 133 2 (.slice sa (R.G.ws.length + 1) cap) (R.G.ws.length + 1) (wcells R.G.ws ++ [.int .u64 off, .int .u64 v]) :=
      ownsRow_only own3w ((Only.refl (fun k => k = B + 2) w3).setCell (a := ⟨B + 2, 2, none⟩) (fun _ => rfl) _) (by rintro k hk rfl; have := fr1 _ hk; omega)
    have fr3 : ∀ k, Value.ownBlock (.slice sb (R.G.ws.length + 1) capb) = some k → B + 13 ≤ k := by
      intro k hk
      rcases fresh3 k hk with h1 | h1
      · exact hrb k h1
      · have : w2.heap.size + 1 ≤ k := by simpa using h1
        omega
    have own4r : (w3.setCell ⟨B + 2, 2, none⟩ (.slice sb (R.G.ws.length + 1) capb)).ownsRow 0 3 1 (.slice sb (R.G.ws.length + 1) capb) (R.G.ws.length + 1) (nats R.G.rk ++ [.int .i64 cv]) :=
      ownsRow_only own3 ((Only.refl (fun k => k = B + 2) w3).setCell (a := ⟨B + 2, 2, none⟩) (fun _ => rfl) _) (by rintro k hk rfl; have := fr3 _ hk; omega)
    have dj2 : ∀ k, Value.ownBlock (.slice sa (R.G.ws.length + 1) cap) = some k → Value.ownBlock (.slice sb (R.G.ws.length + 1) capb) ≠ some k := by
      intro k hk hk2
      rcases fresh3 k hk2 with h1 | h1
      · exact dj k hk h1
      · have h2 : w2.heap.size + 1 ≤ k := by simpa using h1
        have := ownsRow_lt own2 hk
        omega
    have hcl2 : cv + 1 ≤ 20000 := by omega
    have ct5 := ct4.set ln (.int .i64 ((cv : Int) + 1))
    have g5 := g4.set_ne (a := ⟨cb, ln, none⟩) (by show B + 2 ≠ cb; omega) (.int .i64 ((cv : Int) + 1))
    have O5 := (O4.mono (S' := fun k => (Value.ownBlock (.slice wa R.G.ws.length wc) = some k ∨ Value.ownBlock (.slice ra R.G.ws.length rc) = some k ∨ k = B + 2) ∨ k = cb) (fun k _ hk => Or.inl hk)).setCell (a := ⟨cb, ln, none⟩) (fun _ => Or.inr rfl) (.int .i64 ((cv : Int) + 1))
    have nS5 : ∀ k, k < B + 13 → k ≠ B + 2 → k ≠ cb → ¬ ((Value.ownBlock (.slice wa R.G.ws.length wc) = some k ∨ Value.ownBlock (.slice ra R.G.ws.length rc) = some k ∨ k = B + 2) ∨ k = cb) := by
      rintro k h1 h2 h3 (h4 | h4)
      · exact nS k h1 h2 h4
      · exact h3 h4
    have own5 := ownsRow_only own4 ((Only.refl (fun k => k = cb) _).setCell (a := ⟨cb, ln, none⟩) (fun _ => rfl) (.int .i64 ((cv : Int) + 1))) (by rintro k hk rfl; have := fr1 _ hk; omega)
    have own5r := ownsRow_only own4r ((Only.refl (fun k => k = cb) _).setCell (a := ⟨cb, ln, none⟩) (fun _ => rfl) (.int .i64 ((cv : Int) + 1))) (by rintro k hk rfl; have := fr3 _ hk; omega)
    have r5 := h.rb.only O5 (nS5 _ (by omega) (by omega) (by omega))
    have r51 := r5.cell (o := 1) rfl
    have cv5 := h.cv.only O5 (nS5 _ (by omega) (by omega) (by omega))
    obtain ⟨D, hD1, hD2, hD3⟩ := cv5
    have hkey := keyOf_int_mk Try.underlying27 (a := (off : Int)) (q := .u64) (P := Try.prog) (wf_u64 hoff)
    have hval := plainElem_int (H := Unit) Try.underlying27 (a := (v : Int)) (q := .u64) (P := Try.prog) (wf_u64 hv)
    clear own3w own3 own2 own4 own4r how how1 fresh3
    go_wp2_with (at_mapUpdate; refine wpList_mapUpdate_own _ rfl _ _ _ 108 rfl 27 27 key42 Try.underlying108 _ (B + 3) T D rfl hD1 (by unfold maxLen; omega) _ _ _ rfl rfl hkey _ [] hval ?_; intro w6 hown6 hgrow6)
    have O6 := (O5.mono (S' := fun k => ((Value.ownBlock (.slice wa R.G.ws.length wc) = some k ∨ Value.ownBlock (.slice ra R.G.ws.length rc) = some k ∨ k = B + 2) ∨ k = cb) ∨ k = B + 3) (fun k _ hk => Or.inl hk)).trans' (Only.of_grown hgrow6) (fun k _ hk => Or.inr (by simpa using hk))
    have nS6 : ∀ k, k < B + 13 → k ≠ B + 2 → k ≠ cb → k ≠ B + 3 → ¬ (((Value.ownBlock (.slice wa R.G.ws.length wc) = some k ∨ Value.ownBlock (.slice ra R.G.ws.length rc) = some k ∨ k = B + 2) ∨ k = cb) ∨ k = B + 3) := by
      rintro k h1 h2 h3 h4 (h5 | h5)
      · exact nS5 k h1 h2 h3 h5
      · exact h4 h5
    have G6 := Only.of_grown hgrow6
    refine bodyPost_end (results_none rfl _ _ _) rfl ⟨rfl, ⟨okS, hcm, h.rb.only O6 (nS6 _ (by omega) (by omega) (by omega) (by omega)), ?_, ?_, h.md.only O6 (nS6 _ (by omega) (by omega) (by omega) (by omega)), ?_, ?_⟩, ?_⟩
    · refine ⟨sa, cap, sb, capb, ?_, ?_, ?_, ?_, ?_, ?_⟩
      · have := g5.only G6 (by simp)
        simpa [storeP] using this
      · have := ownsRow_only own5 G6 (by intro k hk h1; have := fr1 k hk; simp at h1; omega)
        simp only [storeP, List.length_append, List.length_singleton, wcells_snoc]
        exact this
      · have := ownsRow_only own5r G6 (by intro k hk h1; have := fr3 k hk; simp at h1; omega)
        simp only [storeP, List.length_append, List.length_singleton, nats_snoc]
        rw [← hln.out, hcv.out]
        exact this
      · simpa [storeP] using fr1
      · simpa [storeP] using fr3
      · simpa [storeP] using dj2
    · have := ct5.only G6 (by simp; omega)
      simp only [storeP]
      rw [← hln.out, hcv.out]
      unfold nats at *
      rw [List.map_set]
      exact this
    · exact CurV.put hoff hD2 hD3 hown6
    · intro t ht
      exact ((h.nv t ht).only O6 (nS6 _ (by omega) (by omega) (by omega) (by omega))).up (by omega)
    · exact O6.below (by omega) (by
        rintro k hk (((h1 | h1 | h1) | h1) | h1)
        · have := hwb k h1; omega
        · have := hrb k h1; omega
        · omega
        · omega
        · omega)
end Go.Proofs.Ytjmdibgncaljaaa

namespace Go.Proofs.Ytjmdibgncaljaaa
open Go.RowKit Go.Maps Go.ChangeMaps Go.MapKept Go.WideShapes

theorem run_clear {H : Type} {P : Program} {w : World} {k e t : TypeId} {R : Value → Option (DataW H × List MemPlace)} {b n : Nat} {D : DataW H} (ty : TypeId) (h : w.ownsMap P k R b n D) (ht : P.underlying t = some (.map k e)) :
    ∃ w', (Builtin.clear_ #[t] ty #[.map (some b)]).run P w = .ok (.tuple #[]) w' ∧ w'.ownsMap P k R b 0 (.map []) ∧ Only (fun j => j = b) w w' := by
  obtain ⟨es, clock, hb, F, hs, rfl⟩ := h
  have hlt := heap_lt hb
  refine ⟨setBlock w b (.map #[] clock), ?_, ⟨#[], clock, heap_setBlock_same hb _, ⟨by simp, ?_, by simp⟩, by simp, rfl⟩, ⟨rfl, rfl, rfl, by simp [setBlock], fun j hj hne => heap_setBlock_other hb _ hne⟩⟩
  · have h1 := MapKept.run_getObj_map (P := P) hb
    have h2 := MapKept.run_setObj_map (P := P) (.map #[] clock) hb
    simp [Builtin.clear_, run_underlying ht, h1, h2, setBlock]
  · exact stamped_empty clock
/-- The same as a step of a region that draws its order. -/
theorem step_clear {H : Type} {P : Program} {w : World} {ops : Array Oper} {o : Oper} {a : Act} {K : Act → World → Prop} {Q : Exit → Act → World → Prop} {E : Prop} (hgd : o.guard = none) (x : Operand) (t k e : TypeId)
    (ho : o.op = .call { callee := .builtin .clear, args := #[x], argTypes := #[t] }) (R : Value → Option (DataW H × List MemPlace)) (b n : Nat) (D : DataW H) (hx : a.eval x = .map (some b)) (hown : w.ownsMap P k R b n D) (ht : P.underlying t = some (.map k e))
    (h : ∀ w', w'.ownsMap P k R b 0 (.map []) → Only (fun j => j = b) w w' → K (a.put o.dst (.tuple #[])) w') :
    if Region.wanted o (yielded ops a.tmps) = true then Oper.wp P o a w K Q else E := by
  have hw : Region.wanted o (yielded ops a.tmps) = true := by simp [Region.wanted, hgd]
  rw [if_pos hw]
  obtain ⟨w', hr, h2, h3⟩ := run_clear (P := P) o.type hown ht
  unfold Oper.wp execOp
  simp only [ho, resolve, invoke, builtin, Sem.run_bind, Sem.run_pure, Result.andThen_ok, List.map_toArray, List.map_cons, List.map_nil, hx, hr]
  exact h w' h2 h3
end Go.Proofs.Ytjmdibgncaljaaa

namespace Go.Proofs.Ytjmdibgncaljaaa
open Go.RowKit Go.Maps

/-- An event: kind, thread, offset, value, old, line, n, choice. -/
structure Ev where
  k : Nat
  t : Nat
  off : Nat
  val : Nat
  old : Nat
  line : Nat
  n : Int
  ch : Value
def Ev.cells (e : Ev) : List Value := [.int .u8 (e.k : Int), .int .i64 (e.t : Int), .int .u64 (e.off : Int), .int .u64 (e.val : Int), .int .u64 (e.old : Int), .int .i64 (e.line : Int), .int .i64 e.n, e.ch]
/-- What a valid event of the kinds that New lets by is known to be. -/
structure Ev.Fit (e : Ev) : Prop where
  k : 1 ≤ e.k ∧ e.k ≤ 5
  t : e.t < 8
  off : e.off < 18446744073709551616
  val : e.val < 18446744073709551616
  old : e.old < 18446744073709551616
  line : e.line < 4096
  n : e.k = 5 → 0 ≤ e.n
  nb : -1 ≤ e.n ∧ e.n ≤ 2147483647

def noteP (R : Rn) (t l c : Nat) : Rn := { R with note := fun t' l' => if t' = t ∧ l' = l then some c else R.note t' l' }
def fenceL (R : Rn) (t : Nat) : List Nat := (List.range R.G.n).map fun l => match R.note t l with | none => R.G.md.getD l 0 | some c => max (R.G.md.getD l 0) c
def fenceP (R : Rn) (t : Nat) : Rn := { R with G := { R.G with md := fenceL R t }, note := fun t' l' => if t' = t then none else R.note t' l' }
def backP (R : Rn) (l n : Nat) : Rn := { R with G := { R.G with md := R.G.md.set l (R.G.md.getD l 0 + n) } }
def execP (R : Rn) (e : Ev) : Rn :=
  if e.k = 1 then if e.off < 64 * R.G.n ∧ e.off % 8 = 0 then storeP R e.off e.val else R
  else if e.k = 2 then if (e.off < 64 * R.G.n ∧ e.off % 8 = 0) ∧ R.cur e.off = e.old then storeP R e.off e.val else R
  else if e.k = 3 then if e.off < 64 * R.G.n then noteP R e.t (e.off / 64) (R.G.ct.getD (e.off / 64) 0) else R
  else if e.k = 4 then fenceP R e.t
  else if e.k = 5 then if e.line < R.G.n ∧ e.n ≤ (R.G.ct.getD e.line 0 : Int) - (R.G.md.getD e.line 0 : Int) then backP R e.line e.n.toNat else R
  else R

theorem Rn.Ok.up {R : Rn} {T : Nat} (h : R.Ok T) (hT : T + 1 ≤ 20000) : R.Ok (T + 1) :=
  ⟨hT, h.n1, h.n2, Nat.le_succ_of_le h.wl, h.rl, h.cl, h.ml, h.off, h.al, fun r hr => Nat.le_succ_of_le (h.rb r hr), fun r hr => Nat.le_succ_of_le (h.cb r hr), h.mc, h.cu, h.no⟩
theorem fenceL_get (R : Rn) (t l : Nat) (hl : l < R.G.n) : (fenceL R t).getD l 0 = match R.note t l with | none => R.G.md.getD l 0 | some c => max (R.G.md.getD l 0) c := by
  unfold fenceL
  rw [List.getD, List.getElem?_map, List.getElem?_range hl]; rfl
theorem noteP_ok {R : Rn} {T t l c : Nat} (h : R.Ok T) (hl : l < R.G.n) (hc : c ≤ R.G.ct.getD l 0) : (noteP R t l c).Ok T := by
  refine ⟨h.t, h.n1, h.n2, h.wl, h.rl, h.cl, h.ml, h.off, h.al, h.rb, h.cb, h.mc, h.cu, ?_⟩
  intro t' l' c' hh
  simp only [noteP] at hh
  split at hh
  · rename_i he; cases hh; obtain ⟨rfl, rfl⟩ := he; exact ⟨hl, hc⟩
  · exact h.no _ _ _ hh
theorem fenceP_ok {R : Rn} {T t : Nat} (h : R.Ok T) : (fenceP R t).Ok T := by
  refine ⟨h.t, h.n1, h.n2, h.wl, h.rl, h.cl, ?_, h.off, h.al, h.rb, h.cb, ?_, h.cu, ?_⟩
  · simp [fenceP, fenceL]
  · intro k
    show (fenceL R t).getD k 0 ≤ R.G.ct.getD k 0
    by_cases hk : k < R.G.n
    · rw [fenceL_get R t k hk]
      have h1 := h.mc k
      cases hn : R.note t k with
      | none => exact h1
      | some c => have := (h.no _ _ _ hn).2; simp only; omega
    · have : (fenceL R t).getD k 0 = 0 := by rw [List.getD, List.getElem?_eq_none (by simp [fenceL]; omega)]; rfl
      omega
  · intro t' l' c' hh
    simp only [fenceP] at hh
    split at hh
    · cases hh
    · exact h.no _ _ _ hh
theorem backP_ok {R : Rn} {T l n : Nat} (h : R.Ok T) (hl : l < R.G.n) (hn : R.G.md.getD l 0 + n ≤ R.G.ct.getD l 0) : (backP R l n).Ok T := by
  refine ⟨h.t, h.n1, h.n2, h.wl, h.rl, h.cl, ?_, h.off, h.al, h.rb, h.cb, ?_, h.cu, h.no⟩
  · simpa [backP] using h.ml
  · intro k
    show (R.G.md.set l (R.G.md.getD l 0 + n)).getD k 0 ≤ R.G.ct.getD k 0
    by_cases hk : k = l
    · subst hk; rw [List.getD, List.getElem?_set_self (by rw [h.ml]; exact hl)]; exact hn
    · rw [List.getD, List.getElem?_set_ne (Ne.symm hk)]; exact h.mc k
theorem execP_ok {R : Rn} {T : Nat} {e : Ev} (h : R.Ok T) (hT : T + 1 ≤ 20000) (he : e.Fit) : (execP R e).Ok (T + 1) := by
  unfold execP
  split
  · split
    · rename_i hh; exact storeP_ok h hT hh.1 hh.2 he.val
    · exact h.up hT
  split
  · split
    · rename_i hh; exact storeP_ok h hT hh.1.1 hh.1.2 he.val
    · exact h.up hT
  split
  · split
    · exact (noteP_ok h (by omega) (Nat.le_refl _)).up hT
    · exact h.up hT
  split
  · exact (fenceP_ok h).up hT
  split
  · rename_i hk
    split
    · rename_i hh; have := he.n hk; exact (backP_ok h hh.1 (by omega)).up hT
    · exact h.up hT
  · exact h.up hT
end Go.Proofs.Ytjmdibgncaljaaa

namespace Go.Proofs.Ytjmdibgncaljaaa
open Go.RowKit Go.Maps

theorem RunSt.only {w w' : World} {B cb mb T : Nat} {R : Rn} {S : Nat → Prop} (h : RunSt w B cb mb T R) (ho : Only S w w') (hs : ∀ k, k < w.heap.size → ¬ S k) : RunSt w' B cb mb T R := by
  obtain ⟨wa, wc, ra, rc, h1, h2, h3, h4, h5, h6⟩ := h.ex
  refine ⟨h.ok, h.cm, h.rb.only ho (hs _ h.rb.lt), ⟨wa, wc, ra, rc, h1.only ho (hs _ h1.lt), ownsRow_only h2 ho (fun k hk => hs k (ownsRow_lt h2 hk)), ownsRow_only h3 ho (fun k hk => hs k (ownsRow_lt h3 hk)), h4, h5, h6⟩,
    h.ct.only ho (hs _ h.ct.lt), h.md.only ho (hs _ h.md.lt), h.cv.only ho ?_, fun t ht => (h.nv t ht).only ho ?_⟩
  · obtain ⟨D, hD, _⟩ := h.cv; exact hs _ hD.lt
  · obtain ⟨D, hD, _⟩ := h.nv t ht; exact hs _ hD.lt
theorem RunSt.alloc {w : World} {B cb mb T : Nat} {R : Rn} (h : RunSt w B cb mb T R) (o : Obj) : RunSt (w.alloc o) B cb mb T R :=
  h.only ((Only.refl (fun _ => False) w).alloc o) (fun _ _ h => h)
theorem RunSt.drewN {w : World} {B cb mb T : Nat} {R : Rn} (h : RunSt w B cb mb T R) (n : Nat) : RunSt (w.drewN n) B cb mb T R :=
  h.only ((Only.refl (fun _ => False) w).drewN n) (fun _ _ h => h)
theorem RunSt.up {w : World} {B cb mb T : Nat} {R : Rn} (h : RunSt w B cb mb T R) (hT : T + 1 ≤ 20000) : RunSt w B cb mb (T + 1) R :=
  ⟨h.ok.up hT, h.cm, h.rb, h.ex, h.ct, h.md, h.cv.up (by omega), fun t ht => (h.nv t ht).up (by omega)⟩
theorem RunSt.size {w : World} {B cb mb T : Nat} {R : Rn} (h : RunSt w B cb mb T R) : B + 13 ≤ w.heap.size := by
  obtain ⟨D, ⟨es, cl, hb, _⟩, _⟩ := h.nv 7 (by omega)
  have := heap_lt hb
  omega

def ExPost (w : World) (B cb mb T : Nat) (R : Rn) (x : Ending) (w' : World) : Prop := x = .returned (.tuple #[]) ∧ RunSt w' B cb mb (T + 1) R ∧ Below B w w'

set_option maxHeartbeats 4000000 in
set_option maxRecDepth 100000 in
theorem exec1 (B cb mb T off val : Nat) (vt vo vl vn vc : Value) (R : Rn) (w : World) (h : RunSt w B cb mb T R) (hT : T + 1 ≤ 20000) (hof : off < 18446744073709551616) (hv : val < 18446744073709551616) :
    Calls Try.prog 38 #[.pointer (some ⟨B + 4, 0, none⟩), .agg #[.int .u8 1, vt, .int .u64 off, .int .u64 val, vo, vl, vn, vc]] w (ExPost w B cb mb T (if off < 64 * R.G.n ∧ off % 8 = 0 then storeP R off val else R)) := by
  have ok := h.ok
  have hn2 := ok.n2
  have hsz := h.size
  have hA := h.alloc (.cells #[.int .u8 1, vt, .int .u64 off, .int .u64 val, vo, vl, vn, vc] 30)
  have r0 := hA.rb.cell (o := 0) rfl
  obtain ⟨wa, wc, ra, rc, hg, _⟩ := hA.ex
  have g0 := hg.cell (o := 0) rfl
  have hE := Has.new w [.int .u8 1, vt, .int .u64 off, .int .u64 val, vo, vl, vn, vc] 30
  have e0 := hE.cell (o := 0) rfl
  have e2 := hE.cell (o := 2) rfl
  have e3 := hE.cell (o := 3) rfl
  have hBa : Below B w (w.alloc (.cells #[.int .u8 1, vt, .int .u64 off, .int .u64 val, vo, vl, vn, vc] 30)) := (Below.refl _ _).alloc (by omega) _
  clear hg
  by_cases hin : off < 64 * R.G.n
  · by_cases hal : off % 8 = 0
    · rw [if_pos ⟨hin, hal⟩]
      have hd1 : decide ((off : Int) < (R.G.n : Int) * 64) = true := decide_eq_true (by omega)
      have hd2 : ((off : Int) % 8 == 0) = true := by rw [beq_iff_eq]; omega
      have hc := Lib.hid (fun n => store_any B cb mb T off val R _ (hA.drewN n) hT hin hal hv)
      generalize hpost : ExPost w B cb mb T (storeP R off val) = post
      have hend : ∀ w', RunSt w' B cb mb (T + 1) (storeP R off val) → Below B w w' → post (.returned (.tuple #[])) w' := by
        intro w' p1 p2; rw [← hpost]; exact ⟨rfl, p1, p2⟩
      replace hend := Lib.hid hend
      have hinI : (off : Int) < (R.G.n : Int) * 64 := by omega
      have halI : (off : Int) % 8 = 0 := by omega
      clear hpost
      replace hin := Lib.hid hin
      replace hal := Lib.hid hal
      go_enter Try.func38, Try.ntmps38
      go_wp2_with fail
      go_quiet (fail)
      go_wp2_with fail
      refine (hc.out nq).mono ?_
      rintro e w1 ⟨rfl, p1, p2⟩
      have hx := hend.out w1 p1 ((below_drewN hBa nq).trans p2)
      go_wp2_with fail
      first | exact hx | exact bodyPost_end (results_none rfl _ _ _) rfl hx
    · rw [if_neg (fun h => hal h.2)]
      have hd1 : decide ((off : Int) < (R.G.n : Int) * 64) = true := decide_eq_true (by omega)
      have hd2 : ((off : Int) % 8 == 0) = false := by rw [beq_eq_false_iff_ne]; omega
      generalize hpost : ExPost w B cb mb T R = post
      have hend : ∀ w', RunSt w' B cb mb (T + 1) R → Below B w w' → post (.returned (.tuple #[])) w' := by
        intro w' p1 p2; rw [← hpost]; exact ⟨rfl, p1, p2⟩
      have hx := Lib.hid (fun n => hend _ ((hA.up hT).drewN n) (below_drewN hBa n))
      have hinI : (off : Int) < (R.G.n : Int) * 64 := by omega
      have halI : ¬ (off : Int) % 8 = 0 := by omega
      clear hpost hend
      replace hin := Lib.hid hin
      replace hal := Lib.hid hal
      go_enter Try.func38, Try.ntmps38
      go_wp2_with fail
      go_quiet (fail)
      go_wp2_with fail
      first | exact hx.out _ | exact bodyPost_end (results_none rfl _ _ _) rfl (hx.out _)
  · rw [if_neg (fun h => hin h.1)]
    have hd1 : decide ((off : Int) < (R.G.n : Int) * 64) = false := decide_eq_false (by omega)
    generalize hpost : ExPost w B cb mb T R = post
    have hend : ∀ w', RunSt w' B cb mb (T + 1) R → Below B w w' → post (.returned (.tuple #[])) w' := by
      intro w' p1 p2; rw [← hpost]; exact ⟨rfl, p1, p2⟩
    have hx := Lib.hid (fun n => hend _ ((hA.up hT).drewN n) (below_drewN hBa n))
    have hinI : ¬ (off : Int) < (R.G.n : Int) * 64 := by omega
    clear hpost hend
    replace hin := Lib.hid hin
    go_enter Try.func38, Try.ntmps38
    go_wp2_with fail
    go_quiet (fail)
    go_wp2_with fail
    first | exact hx.out _ | exact bodyPost_end (results_none rfl _ _ _) rfl (hx.out _)
end Go.Proofs.Ytjmdibgncaljaaa

namespace Go.Proofs.Ytjmdibgncaljaaa
open Go.RowKit Go.Maps

theorem cur_lookup {w : World} {b T off : Nat} {cur : Nat → Nat} (h : CurV w b T cur) (ho : off < 18446744073709551616) (n : Nat) :
    (Instr.lookup 108 (.map (some b)) (.int .u64 off) false).run Try.prog (w.drewN n) = .ok (.int .u64 (cur off : Int)) (w.drewN n) := by
  obtain ⟨D, hD1, hD2, hD3⟩ := h
  have hD1' : (w.drewN n).ownsMap Try.prog 27 (plainElem Try.prog 27) b T D := hD1
  obtain ⟨c, hrun, hat, _⟩ := hD1'.lookup_int key42 Try.underlying108 Try.underlying27 (zero42 _) (keyOf_int_mk Try.underlying27 (wf_u64 ho))
  have := hD3 off ho
  rw [hat] at this
  simp only [DataW.lit.injEq, Lit.int.injEq, true_and] at this
  subst this
  exact hrun

set_option maxHeartbeats 4000000 in
set_option maxRecDepth 100000 in
theorem exec2 (B cb mb T off val old : Nat) (vt vl vn vc : Value) (R : Rn) (w : World) (h : RunSt w B cb mb T R) (hT : T + 1 ≤ 20000) (hof : off < 18446744073709551616) (hv : val < 18446744073709551616) :
    Calls Try.prog 38 #[.pointer (some ⟨B + 4, 0, none⟩), .agg #[.int .u8 2, vt, .int .u64 off, .int .u64 val, .int .u64 old, vl, vn, vc]] w (ExPost w B cb mb T (if (off < 64 * R.G.n ∧ off % 8 = 0) ∧ R.cur off = old then storeP R off val else R)) := by
  have ok := h.ok
  have hn2 := ok.n2
  have hsz := h.size
  have hA := h.alloc (.cells #[.int .u8 2, vt, .int .u64 off, .int .u64 val, .int .u64 old, vl, vn, vc] 30)
  have r0 := hA.rb.cell (o := 0) rfl
  obtain ⟨wa, wc, ra, rc, hg, _⟩ := hA.ex
  have g0 := hg.cell (o := 0) rfl
  have hE := Has.new w [.int .u8 2, vt, .int .u64 off, .int .u64 val, .int .u64 old, vl, vn, vc] 30
  have e0 := hE.cell (o := 0) rfl
  have e2 := hE.cell (o := 2) rfl
  have e3 := hE.cell (o := 3) rfl
  have e4 := hE.cell (o := 4) rfl
  have r1 := hA.rb.cell (o := 1) rfl
  have hlk := cur_lookup hA.cv hof
  have hBa : Below B w (w.alloc (.cells #[.int .u8 2, vt, .int .u64 off, .int .u64 val, .int .u64 old, vl, vn, vc] 30)) := (Below.refl _ _).alloc (by omega) _
  clear hg
  by_cases hin : off < 64 * R.G.n
  · by_cases hal : off % 8 = 0
    · by_cases heq : R.cur off = old
      · rw [if_pos ⟨⟨hin, hal⟩, heq⟩]
        have hq : ((R.cur off : Int) == (old : Int)) = true := by rw [heq]; simp
        have hqI : (R.cur off : Int) = (old : Int) := by rw [heq]
        replace heq := Lib.hid heq
        have hd1 : decide ((off : Int) < (R.G.n : Int) * 64) = true := decide_eq_true (by omega)
        have hd2 : ((off : Int) % 8 == 0) = true := by rw [beq_iff_eq]; omega
        have hc := Lib.hid (fun n => store_any B cb mb T off val R _ (hA.drewN n) hT hin hal hv)
        generalize hpost : ExPost w B cb mb T (storeP R off val) = post
        have hend : ∀ w', RunSt w' B cb mb (T + 1) (storeP R off val) → Below B w w' → post (.returned (.tuple #[])) w' := by
          intro w' p1 p2; rw [← hpost]; exact ⟨rfl, p1, p2⟩
        replace hend := Lib.hid hend
        have hinI : (off : Int) < (R.G.n : Int) * 64 := by omega
        have halI : (off : Int) % 8 = 0 := by omega
        clear hpost
        replace hin := Lib.hid hin
        replace hal := Lib.hid hal
        go_enter Try.func38, Try.ntmps38
        go_wp2_with fail
        go_quiet (fail)
        go_wp2_with fail
        go_quiet (fail)
        go_wp2_with fail
        (try rw [World.drewN_drewN])
        refine (hc.out _).mono ?_
        rintro e w1 ⟨rfl, p1, p2⟩
        have hx := hend.out w1 p1 ((below_drewN hBa _).trans p2)
        go_wp2_with fail
        first | exact hx | exact bodyPost_end (results_none rfl _ _ _) rfl hx
      · rw [if_neg (fun h => heq h.2)]
        have hq : ((R.cur off : Int) == (old : Int)) = false := by rw [beq_eq_false_iff_ne]; omega
        have hqI : ¬ (R.cur off : Int) = (old : Int) := by omega
        replace heq := Lib.hid heq
        have hd1 : decide ((off : Int) < (R.G.n : Int) * 64) = true := decide_eq_true (by omega)
        have hd2 : ((off : Int) % 8 == 0) = true := by rw [beq_iff_eq]; omega
        generalize hpost : ExPost w B cb mb T R = post
        have hend : ∀ w', RunSt w' B cb mb (T + 1) R → Below B w w' → post (.returned (.tuple #[])) w' := by
          intro w' p1 p2; rw [← hpost]; exact ⟨rfl, p1, p2⟩
        have hx := Lib.hid (fun n => hend _ ((hA.up hT).drewN n) (below_drewN hBa n))
        have hinI : (off : Int) < (R.G.n : Int) * 64 := by omega
        have halI : (off : Int) % 8 = 0 := by omega
        clear hpost hend
        replace hin := Lib.hid hin
        replace hal := Lib.hid hal
        go_enter Try.func38, Try.ntmps38
        go_wp2_with fail
        go_quiet (fail)
        go_wp2_with fail
        go_quiet (fail)
        go_wp2_with fail
        first | exact hx.out _ | (rw [World.drewN_drewN]; exact hx.out _) | exact bodyPost_end (results_none rfl _ _ _) rfl (hx.out _) | (refine bodyPost_end (results_none rfl _ _ _) rfl ?_; rw [World.drewN_drewN]; exact hx.out _)
    · rw [if_neg (fun h => hal h.1.2)]
      have hd1 : decide ((off : Int) < (R.G.n : Int) * 64) = true := decide_eq_true (by omega)
      have hd2 : ((off : Int) % 8 == 0) = false := by rw [beq_eq_false_iff_ne]; omega
      generalize hpost : ExPost w B cb mb T R = post
      have hend : ∀ w', RunSt w' B cb mb (T + 1) R → Below B w w' → post (.returned (.tuple #[])) w' := by
        intro w' p1 p2; rw [← hpost]; exact ⟨rfl, p1, p2⟩
      have hx := Lib.hid (fun n => hend _ ((hA.up hT).drewN n) (below_drewN hBa n))
      have hinI : (off : Int) < (R.G.n : Int) * 64 := by omega
      have halI : ¬ (off : Int) % 8 = 0 := by omega
      clear hpost hend
      replace hin := Lib.hid hin
      replace hal := Lib.hid hal
      go_enter Try.func38, Try.ntmps38
      go_wp2_with fail
      go_quiet (fail)
      go_wp2_with fail
      try (go_quiet (fail))
      go_wp2_with fail
      first | exact hx.out _ | (rw [World.drewN_drewN]; exact hx.out _) | exact bodyPost_end (results_none rfl _ _ _) rfl (hx.out _) | (refine bodyPost_end (results_none rfl _ _ _) rfl ?_; rw [World.drewN_drewN]; exact hx.out _)
  · rw [if_neg (fun h => hin h.1.1)]
    have hd1 : decide ((off : Int) < (R.G.n : Int) * 64) = false := decide_eq_false (by omega)
    generalize hpost : ExPost w B cb mb T R = post
    have hend : ∀ w', RunSt w' B cb mb (T + 1) R → Below B w w' → post (.returned (.tuple #[])) w' := by
      intro w' p1 p2; rw [← hpost]; exact ⟨rfl, p1, p2⟩
    have hx := Lib.hid (fun n => hend _ ((hA.up hT).drewN n) (below_drewN hBa n))
    have hinI : ¬ (off : Int) < (R.G.n : Int) * 64 := by omega
    clear hpost hend
    replace hin := Lib.hid hin
    go_enter Try.func38, Try.ntmps38
    go_wp2_with fail
    go_quiet (fail)
    go_wp2_with fail
    go_quiet (fail)
    go_wp2_with fail
    first | exact hx.out _ | (rw [World.drewN_drewN]; exact hx.out _) | exact bodyPost_end (results_none rfl _ _ _) rfl (hx.out _) | (refine bodyPost_end (results_none rfl _ _ _) rfl ?_; rw [World.drewN_drewN]; exact hx.out _)
end Go.Proofs.Ytjmdibgncaljaaa

namespace Go.Proofs.Ytjmdibgncaljaaa
open Go.RowKit Go.Maps

/-- A region that draws its order, whose operations only read but for the last few, which have one order. -/
theorem region_tail {P : Program} {id : Nat} {Q : Exit → Act → World → Prop} {a : Act} {w : World} {l : List Oper} (n : Nat) (hm : P.follows .mixedOrders = true) (hB : Region.lexTailB .any l.toArray n = true)
    (h : wpStill P l.toArray w.drew (fun a' => wpList P l.toArray Q (l.drop n) a' w.drew) (l.take n) a) : (Code.region id l.toArray true).wp P Q a w :=
  wp_region_still_tail n hm hB h
theorem RunSt.note_cell {w : World} {B cb mb T t : Nat} {R : Rn} (h : RunSt w B cb mb T R) (ht : t < 8) : w.cell? ⟨B + 4, 2 + t, none⟩ = some (.map (some (B + 5 + t))) := by
  refine h.rb.cell ?_
  match t, ht with
  | 0, _ | 1, _ | 2, _ | 3, _ | 4, _ | 5, _ | 6, _ | 7, _ => rfl
/-- A map update as a step of a region that draws its order. -/
theorem step_update {H : Type} {P : Program} {w : World} {ops : Array Oper} {o : Oper} {a : Act} {K : Act → World → Prop} {Q : Exit → Act → World → Prop} {E : Prop} (hgd : o.guard = none) (m x v : Operand) (t k e : TypeId)
    (ho : o.op = Op.mapUpdate t m x v) (Ky : Keyed P k) (ht : P.underlying t = some (.map k e)) (R : Value → Option (DataW H × List MemPlace)) (b n : Nat) (D : DataW H)
    (hm : a.eval m = .map (some b)) (hown : w.ownsMap P k R b n D) (hn : n < maxLen) (key val : Value) (kl : Lit) (hx : a.eval x = key) (hv : a.eval v = val) (hkey : keyOf P k key = some kl)
    (d : DataW H) (ps : List MemPlace) (hval : R val = some (d, ps))
    (h : ∀ w', w'.ownsMap P k R b (n + 1) (D.put kl d) → Only (fun j => j = b) w w' → K (a.put o.dst undef) w') :
    if Region.wanted o (yielded ops a.tmps) = true then Oper.wp P o a w K Q else E := by
  have hw : Region.wanted o (yielded ops a.tmps) = true := by simp [Region.wanted, hgd]
  rw [if_pos hw]
  obtain ⟨w', hrun, r1, r2⟩ := hown.update Ky ht hn hkey hval
  unfold Oper.wp
  simp [execOp, ho, hm, hx, hv, hrun, Result.andThen]
  exact h w' r1 ((Only.of_grown r2).mono fun j _ e => by simpa using e)
theorem NoteV.put {w' : World} {b T n l c : Nat} {f : Nat → Option Nat} {D : DataW Unit} (hl : l < n) (hl2 : l < 9223372036854775808) (hD2 : IsMap D)
    (hD3 : ∀ kl : Lit, has D kl = true → ∃ k : Nat, k < n ∧ kl = .int .i64 k) (hD4 : ∀ k : Nat, has D (.int .i64 k) = (f k).isSome) (hD5 : ∀ k c : Nat, f k = some c → ∀ z, D.atKey (.int .i64 k) z = .lit (.int .i64 c))
    (h : w'.ownsMap Try.prog 3 (plainElem Try.prog 3) b T (D.put (.int .i64 l) (.lit (.int .i64 c)))) : NoteV w' b T n (fun k => if k = l then some c else f k) := by
  have hk := key3.key (keyOf_int_mk Try.underlying3 (wf_i64 hl2))
  refine ⟨_, h, hD2.put _ _, ?_, ?_, ?_⟩
  · intro kl hh
    by_cases he : kl = .int .i64 l
    · exact ⟨l, hl, he⟩
    · rw [has_put_other he] at hh; exact hD3 kl hh
  · intro k
    by_cases he : k = l
    · subst he; rw [has_put_same hD2 hk]; simp
    · rw [has_put_other (by intro h; injection h with _ h; omega)]; simp only [if_neg he]; exact hD4 k
  · intro k c' hc z
    simp only at hc
    by_cases he : k = l
    · subst he; rw [if_pos rfl] at hc; cases hc; exact atKey_put_same hD2 hk _ _
    · rw [if_neg he] at hc; rw [atKey_put_other (by intro h; injection h with _ h; omega)]; exact hD5 k c' hc z

theorem RunSt.put {w w' : World} {B cb mb T t l c : Nat} {R : Rn} (h : RunSt w B cb mb T R) (hT : T + 1 ≤ 20000) (ho : Only (fun k => k = B + 5 + t) w w') (ht : t < 8) (hl : l < R.G.n) (hc : c ≤ R.G.ct.getD l 0)
    (hn : NoteV w' (B + 5 + t) (T + 1) R.G.n (fun k => if k = l then some c else R.note t k)) : RunSt w' B cb mb (T + 1) (noteP R t l c) := by
  have hcm := h.cm
  obtain ⟨wa, wc, ra, rc, h1, h2, h3, h4, h5, h6⟩ := h.ex
  refine ⟨(noteP_ok h.ok hl hc).up hT, h.cm, h.rb.only ho (by omega), ⟨wa, wc, ra, rc, h1.only ho (by omega), ownsRow_only h2 ho ?_, ownsRow_only h3 ho ?_, h4, h5, h6⟩,
    h.ct.only ho (by omega), h.md.only ho (by omega), (h.cv.only ho (by omega)).up (by omega), fun t' ht' => ?_⟩
  · rintro k hk rfl; have := h4 _ hk; omega
  · rintro k hk rfl; have := h5 _ hk; omega
  · by_cases he : t' = t
    · subst he
      have e : (noteP R t' l c).note t' = fun k => if k = l then some c else R.note t' k := by
        funext k; simp [noteP]
      rw [e]; exact hn
    · have e : (noteP R t l c).note t' = R.note t' := by
        funext k; simp [noteP, he]
      rw [e]; exact ((h.nv t' ht').only ho (by omega)).up (by omega)

set_option maxHeartbeats 4000000 in
set_option maxRecDepth 100000 in
theorem exec3 (B cb mb T t off : Nat) (vv vo vl vn vc : Value) (R : Rn) (w : World) (h : RunSt w B cb mb T R) (hT : T + 1 ≤ 20000) (hof : off < 18446744073709551616) (htt : t < 8) :
    Calls Try.prog 38 #[.pointer (some ⟨B + 4, 0, none⟩), .agg #[.int .u8 3, .int .i64 t, .int .u64 off, vv, vo, vl, vn, vc]] w (ExPost w B cb mb T (if off < 64 * R.G.n then noteP R t (off / 64) (R.G.ct.getD (off / 64) 0) else R)) := by
  have ok := h.ok
  have hn2 := ok.n2
  have hsz := h.size
  have hcm := h.cm
  have hA := h.alloc (.cells #[.int .u8 3, .int .i64 t, .int .u64 off, vv, vo, vl, vn, vc] 30)
  have r0 := hA.rb.cell (o := 0) rfl
  obtain ⟨wa, wc, ra, rc, hg, _⟩ := hA.ex
  have g0 := hg.cell (o := 0) rfl
  have g3 := hg.cell (o := 3) rfl
  have hE := Has.new w [.int .u8 3, .int .i64 t, .int .u64 off, vv, vo, vl, vn, vc] 30
  have e0 := hE.cell (o := 0) rfl
  have e1 := hE.cell (o := 1) rfl
  have e2 := hE.cell (o := 2) rfl
  have hBa : Below B w (w.alloc (.cells #[.int .u8 3, .int .i64 t, .int .u64 off, vv, vo, vl, vn, vc] 30)) := (Below.refl _ _).alloc (by omega) _
  clear hg
  by_cases hin : off < 64 * R.G.n
  · rw [if_pos hin]
    have hd1 : decide ((off : Int) < (R.G.n : Int) * 64) = true := decide_eq_true (by omega)
    generalize hpost : ExPost w B cb mb T (noteP R t (off / 64) (R.G.ct.getD (off / 64) 0)) = post
    have hinI : (off : Int) < (R.G.n : Int) * 64 := by omega
    replace hpost := Lib.hid hpost
    have hl : off / 64 < R.G.ct.length := by rw [ok.cl]; omega
    have rn := hA.note_cell htt
    have hcc := hA.ct.cell (o := off / 64) (nats_get R.G.ct _ _ (get_of_lt 0 hl))
    obtain ⟨ln, hln⟩ : ∃ ln, ln = off / 64 := ⟨_, rfl⟩
    have hlI : (ln : Int) < (R.G.n : Int) := by omega
    have hl0 : (0 : Int) ≤ (ln : Int) := by omega
    have htI : (t : Int) < 8 := by omega
    have ht0 : (0 : Int) ≤ (t : Int) := by omega
    have hcontract := lineOf_q off
    rw [← hln] at hcc hl hcontract
    replace hln := Lib.hid hln
    generalize hcv : R.G.ct.getD ln 0 = cv at *
    replace hcv := Lib.hid hcv
    obtain ⟨D, hD1, hD2, hD3, hD4, hD5⟩ := hA.nv t htt
    replace hcontract := Lib.hid (fun w => hcontract w hof)
    replace hin := Lib.hid hin
    go_enter Try.func38, Try.ntmps38
    go_wp2_with fail
    go_quiet (fail)
    go_wp2_with (go_at_call 83; refine (hcontract.out _).mono ?_; rintro e w1 ⟨rfl, rfl⟩)
    refine region_tail 15 (by kernel_rfl) (by kernel_rfl) ?_
    simp only [List.take_succ_cons, List.take_zero, List.drop_succ_cons, List.drop_zero]
    repeat still_step
    refine wpStill_nil ?_
    have hcl : cv ≤ 20000 := by have := ok.cb _ (mem_getD 0 hl); have := ok.t; rw [hcv.out] at *; omega
    have hkey := keyOf_int_mk Try.underlying3 (a := (ln : Int)) (q := .i64) (P := Try.prog) (wf_i64 (by omega))
    have hval := plainElem_int (H := Unit) Try.underlying3 (a := (cv : Int)) (q := .i64) (P := Try.prog) (wf_i64 (by omega))
    have hD1' : ((w.alloc (.cells #[.int .u8 3, .int .i64 t, .int .u64 off, vv, vo, vl, vn, vc] 30)).drewN nq).drew.ownsMap Try.prog 3 (plainElem Try.prog 3) (B + 5 + t) T D := hD1
    go_wp2_with (at_mapUpdate; refine wpList_mapUpdate_own _ rfl _ _ _ 109 rfl 3 3 key3 Try.underlying109 _ (B + 5 + t) T D rfl hD1' (by unfold maxLen; omega) _ _ _ rfl rfl hkey _ [] hval ?_; intro w6 hown6 hgrow6)
    have O6 : Only (fun k => k = B + 5 + t) (w.alloc (.cells #[.int .u8 3, .int .i64 t, .int .u64 off, vv, vo, vl, vn, vc] 30)) w6 :=
      (((Only.refl (fun k => k = B + 5 + t) _).drewN nq).drew).trans ((Only.of_grown hgrow6).mono fun k _ e => by simpa using e)
    have hfin := RunSt.put (l := ln) (c := cv) hA hT O6 htt (by omega) (by rw [hcv.out]; exact Nat.le_refl _) (NoteV.put (by omega) (by omega) hD2 hD3 hD4 hD5 hown6)
    have hbl : Below B w w6 := hBa.trans (O6.below (by simp; omega) (by intro k _ e; omega))
    refine bodyPost_end (results_none rfl _ _ _) rfl ?_
    rw [← hpost.out, ← hln.out, hcv.out]
    exact ⟨rfl, hfin, hbl⟩
  · rw [if_neg hin]
    have hd1 : decide ((off : Int) < (R.G.n : Int) * 64) = false := decide_eq_false (by omega)
    generalize hpost : ExPost w B cb mb T R = post
    have hend : ∀ w', RunSt w' B cb mb (T + 1) R → Below B w w' → post (.returned (.tuple #[])) w' := by
      intro w' p1 p2; rw [← hpost]; exact ⟨rfl, p1, p2⟩
    have hx := Lib.hid (fun n => hend _ ((hA.up hT).drewN n) (below_drewN hBa n))
    have hinI : ¬ (off : Int) < (R.G.n : Int) * 64 := by omega
    clear hpost hend
    replace hin := Lib.hid hin
    go_enter Try.func38, Try.ntmps38
    go_wp2_with fail
    go_quiet (fail)
    go_wp2_with fail
    first | exact hx.out _ | exact bodyPost_end (results_none rfl _ _ _) rfl (hx.out _)
end Go.Proofs.Ytjmdibgncaljaaa

namespace Go.Proofs.Ytjmdibgncaljaaa
open Go.RowKit Go.Maps

def Rn.withMd (R : Rn) (md : List Nat) : Rn := { R with G := { R.G with md := md } }
theorem RunSt.mdset {w w' : World} {B cb mb T : Nat} {R : Rn} {md : List Nat} (h : RunSt w B cb mb T R) (ok' : (R.withMd md).Ok T) (ho : Only (fun k => k = mb) w w') (hm : Has w' mb (nats md) 3) : RunSt w' B cb mb T (R.withMd md) := by
  have hcm := h.cm
  obtain ⟨wa, wc, ra, rc, h1, h2, h3, h4, h5, h6⟩ := h.ex
  have hm2 : mb < B + 2 ∧ mb ≠ cb := by omega
  refine ⟨ok', h.cm, h.rb.only ho (by omega), ⟨wa, wc, ra, rc, h1.only ho (by omega), ownsRow_only h2 ho ?_, ownsRow_only h3 ho ?_, h4, h5, h6⟩,
    h.ct.only ho (by omega), hm, h.cv.only ho (by omega), fun t ht => (h.nv t ht).only ho (by omega)⟩
  · rintro k hk rfl; have := h4 _ hk; omega
  · rintro k hk rfl; have := h5 _ hk; omega

set_option maxHeartbeats 4000000 in
set_option maxRecDepth 100000 in
theorem exec5 (B cb mb T line n : Nat) (vt vv vd vc : Value) (R : Rn) (w : World) (h : RunSt w B cb mb T R) (hT : T + 1 ≤ 20000) (hln : line < 4096) (hn : n ≤ 2147483647) :
    Calls Try.prog 38 #[.pointer (some ⟨B + 4, 0, none⟩), .agg #[.int .u8 5, vt, .int .u64 0, vv, vd, .int .i64 line, .int .i64 n, vc]] w
      (ExPost w B cb mb T (if line < R.G.n ∧ (n : Int) ≤ (R.G.ct.getD line 0 : Int) - (R.G.md.getD line 0 : Int) then backP R line n else R)) := by
  have ok := h.ok
  have hn2 := ok.n2
  have hsz := h.size
  have hcm := h.cm
  have hA := h.alloc (.cells #[.int .u8 5, vt, .int .u64 0, vv, vd, .int .i64 line, .int .i64 n, vc] 30)
  have r0 := hA.rb.cell (o := 0) rfl
  obtain ⟨wa, wc, ra, rc, hg, _⟩ := hA.ex
  have g0 := hg.cell (o := 0) rfl
  have g3 := hg.cell (o := 3) rfl
  have g4 := hg.cell (o := 4) rfl
  have hE := Has.new w [.int .u8 5, vt, .int .u64 0, vv, vd, .int .i64 line, .int .i64 n, vc] 30
  have e0 := hE.cell (o := 0) rfl
  have e2 := hE.cell (o := 2) rfl
  have hd0 : decide ((0 : Int) < (R.G.n : Int) * 64) = true := decide_eq_true (by have := ok.n1; omega)
  have hdI : (0 : Int) < (R.G.n : Int) * 64 := by have := ok.n1; omega
  have e5 := hE.cell (o := 5) rfl
  have e6 := hE.cell (o := 6) rfl
  have hBa : Below B w (w.alloc (.cells #[.int .u8 5, vt, .int .u64 0, vv, vd, .int .i64 line, .int .i64 n, vc] 30)) := (Below.refl _ _).alloc (by omega) _
  clear hg
  by_cases hin : line < R.G.n
  · have hl : line < R.G.ct.length := by rw [ok.cl]; omega
    have hl2 : line < R.G.md.length := by rw [ok.ml]; omega
    have hcc := hA.ct.cell (o := line) (nats_get R.G.ct _ _ (get_of_lt 0 hl))
    have hmm := hA.md.cell (o := line) (nats_get R.G.md _ _ (get_of_lt 0 hl2))
    have hmf := hA.md.free line
    have hms := hA.md.set line (.int .i64 ((R.G.md.getD line 0 + n : Nat) : Int))
    have hcb := ok.cb _ (mem_getD 0 hl)
    have hmc := ok.mc line
    have hTT := ok.t
    have hd1 : decide ((line : Int) < (R.G.n : Int)) = true := decide_eq_true (by omega)
    have hd1' : decide (line < R.G.n) = true := decide_eq_true hin
    have hlI : (line : Int) < (R.G.n : Int) := by omega
    have hl0 : (0 : Int) ≤ (line : Int) := by omega
    by_cases hle : (n : Int) ≤ (R.G.ct.getD line 0 : Int) - (R.G.md.getD line 0 : Int)
    · rw [if_pos ⟨hin, hle⟩]
      have okb : (R.withMd (R.G.md.set line (R.G.md.getD line 0 + n))).Ok T := backP_ok ok hin (by omega)
      have hbp : backP R line n = R.withMd (R.G.md.set line (R.G.md.getD line 0 + n)) := rfl
      rw [hbp]
      generalize hpost : ExPost w B cb mb T (R.withMd (R.G.md.set line (R.G.md.getD line 0 + n))) = post
      have hend : ∀ w', RunSt w' B cb mb (T + 1) (R.withMd (R.G.md.set line (R.G.md.getD line 0 + n))) → Below B w w' → post (.returned (.tuple #[])) w' := by
        intro w' p1 p2; rw [← hpost]; exact ⟨rfl, p1, p2⟩
      have hfin := fun w' O h => hend w' ((RunSt.mdset hA okb O h).up hT)
      have hnl : nats (R.G.md.set line (R.G.md.getD line 0 + n)) = (nats R.G.md).set line (.int .i64 ((R.G.md.getD line 0 + n : Nat) : Int)) := by
        unfold nats; rw [List.map_set]
      rw [hnl] at hfin
      replace hfin := Lib.hid hfin
      clear hpost hend hbp hnl okb
      generalize R.G.ct.getD line 0 = cv at *
      generalize R.G.md.getD line 0 = mv at *
      have hd2 : decide ((n : Int) ≤ (cv : Int) - (mv : Int)) = true := decide_eq_true hle
      replace hin := Lib.hid hin
      go_enter Try.func38, Try.ntmps38
      go_wp2_with fail
      go_quiet (fail)
      go_wp2_with fail
      go_quiet (fail)
      go_wp2_with fail
      refine region_tail 12 (by kernel_rfl) (by kernel_rfl) ?_
      simp only [List.take_succ_cons, List.take_zero, List.drop_succ_cons, List.drop_zero]
      repeat still_step
      refine wpStill_nil ?_
      go_wp2_with fail
      refine bodyPost_end (results_none rfl _ _ _) rfl (hfin.out _ (((Only.refl (fun k => k = mb) _).drewN _).setCell (fun _ => rfl) _) ?_ (hBa.trans ((((Only.refl (fun k => k = mb) _).drewN _).setCell (fun _ => rfl) _).below (by simp; omega) (by rintro k _ rfl; omega))))
      rw [show ((mv + n : Nat) : Int) = (mv : Int) + n by omega]
      exact (hA.md.drewN _).set line _
    · rw [if_neg (fun h => hle h.2)]
      generalize hpost : ExPost w B cb mb T R = post
      have hend : ∀ w', RunSt w' B cb mb (T + 1) R → Below B w w' → post (.returned (.tuple #[])) w' := by
        intro w' p1 p2; rw [← hpost]; exact ⟨rfl, p1, p2⟩
      have hx := Lib.hid (fun n => hend _ ((hA.up hT).drewN n) (below_drewN hBa n))
      clear hpost hend hms
      generalize R.G.ct.getD line 0 = cv at *
      generalize R.G.md.getD line 0 = mv at *
      have hd2 : decide ((n : Int) ≤ (cv : Int) - (mv : Int)) = false := decide_eq_false hle
      replace hin := Lib.hid hin
      go_enter Try.func38, Try.ntmps38
      go_wp2_with fail
      go_quiet (fail)
      go_wp2_with fail
      go_quiet (fail)
      go_wp2_with fail
      first | exact hx.out _ | (rw [World.drewN_drewN]; exact hx.out _) | exact bodyPost_end (results_none rfl _ _ _) rfl (hx.out _) | (refine bodyPost_end (results_none rfl _ _ _) rfl ?_; rw [World.drewN_drewN]; exact hx.out _)
  · rw [if_neg (fun h => hin h.1)]
    have hd1 : decide ((line : Int) < (R.G.n : Int)) = false := decide_eq_false (by omega)
    have hd1' : decide (line < R.G.n) = false := decide_eq_false hin
    generalize hpost : ExPost w B cb mb T R = post
    have hend : ∀ w', RunSt w' B cb mb (T + 1) R → Below B w w' → post (.returned (.tuple #[])) w' := by
      intro w' p1 p2; rw [← hpost]; exact ⟨rfl, p1, p2⟩
    have hx := Lib.hid (fun n => hend _ ((hA.up hT).drewN n) (below_drewN hBa n))
    clear hpost hend
    go_enter Try.func38, Try.ntmps38
    go_wp2_with fail
    go_quiet (fail)
    go_wp2_with fail
    try (go_quiet (fail))
    go_wp2_with fail
    first | exact hx.out _ | (rw [World.drewN_drewN]; exact hx.out _) | exact bodyPost_end (results_none rfl _ _ _) rfl (hx.out _) | (refine bodyPost_end (results_none rfl _ _ _) rfl ?_; rw [World.drewN_drewN]; exact hx.out _)
end Go.Proofs.Ytjmdibgncaljaaa

namespace Go.Proofs.Ytjmdibgncaljaaa
open Go.RowKit Go.Maps

theorem wpList_clear {H : Type} {P : Program} {w : World} {ops : Array Oper} {rest : List Oper} {o : Oper} {a : Act} {Q : Exit → Act → World → Prop} (hgd : o.guard = none) (x : Operand) (t k e : TypeId)
    (ho : o.op = .call { callee := .builtin .clear, args := #[x], argTypes := #[t] }) (R : Value → Option (DataW H × List MemPlace)) (b n : Nat) (D : DataW H) (hx : a.eval x = .map (some b)) (hown : w.ownsMap P k R b n D) (ht : P.underlying t = some (.map k e))
    (h : ∀ w', w'.ownsMap P k R b 0 (.map []) → Only (fun j => j = b) w w' → wpList P ops Q rest (a.put o.dst (.tuple #[])) w') : wpList P ops Q (o :: rest) a w := by
  refine wpList_plain hgd fun K hK => ?_
  obtain ⟨w', hr, h2, h3⟩ := run_clear (P := P) o.type hown ht
  unfold Oper.wp execOp
  simp only [ho, resolve, invoke, builtin, Sem.run_bind, Sem.run_pure, Result.andThen_ok, List.map_toArray, List.map_cons, List.map_nil, hx, hr]
  exact hK _ _ (h w' h2 h3)
theorem grown_set {w0 w : World} {b : Nat} (h : w0.grownBy w (some b)) (a : Addr) (v : Value) (hb : a.block = b) : w0.grownBy (w.setCell a v) (some b) :=
  ⟨h.os, h.tape, h.output, by have := h.size; simpa using this, fun k hk hn => (heap_setCell_ne (fun e => hn (by rw [e, hb]))).trans (h.block k hk hn)⟩
theorem grown_drew (w : World) (b : Nat) : w.grownBy w.drew (some b) := ⟨rfl, rfl, rfl, Nat.le_refl _, fun _ _ _ => rfl⟩
theorem NoteV.none {w : World} {b T n : Nat} (h : w.ownsMap Try.prog 3 (plainElem (H := Unit) Try.prog 3) b 0 (.map [])) : NoteV w b T n (fun _ => none) :=
  ⟨.map [], h.mono (Nat.zero_le _), ⟨[], rfl⟩, fun kl hk => by simp [has] at hk, fun k => rfl, fun k c hc => by cases hc⟩

/-- What is mandatory while a fence goes through the notes that are left. -/
def midL (n : Nat) (md : List Nat) (note : Nat → Option Nat) (left : Lit → Bool) : List Nat :=
  (List.range n).map fun l => match note l with | none => md.getD l 0 | some c => if left (.int .i64 l) then md.getD l 0 else max (md.getD l 0) c
theorem midL_length (n : Nat) (md : List Nat) (note : Nat → Option Nat) (left : Lit → Bool) : (midL n md note left).length = n := by simp [midL]
theorem midL_get (n : Nat) (md : List Nat) (note : Nat → Option Nat) (left : Lit → Bool) (l : Nat) (h : l < n) :
    (midL n md note left)[l]? = some (match note l with | none => md.getD l 0 | some c => if left (.int .i64 l) then md.getD l 0 else max (md.getD l 0) c) := by
  unfold midL; rw [List.getElem?_map, List.getElem?_range h]; rfl
theorem midL_start (n : Nat) (md : List Nat) (hn : md.length = n) (note : Nat → Option Nat) (left : Lit → Bool) (h : ∀ l, (note l).isSome = true → left (.int .i64 l) = true) : midL n md note left = md := by
  apply List.ext_getElem?
  intro l
  by_cases hl : l < n
  · rw [midL_get n md note left l hl, get_of_lt 0 (by omega)]
    have := h l
    cases hq : note l with
    | none => rfl
    | some c => rw [hq] at this; simp only [this rfl, if_true]
  · rw [List.getElem?_eq_none (by rw [midL_length]; omega), List.getElem?_eq_none (by omega)]
theorem midL_end (R : Rn) (t : Nat) (left : Lit → Bool) (h : ∀ kl, left kl = false) : midL R.G.n R.G.md (R.note t) left = fenceL R t := by
  unfold midL fenceL
  apply List.map_congr_left
  intro l _
  cases R.note t l with
  | none => rfl
  | some c => simp [h]
theorem midL_at (n : Nat) (md : List Nat) (note : Nat → Option Nat) (left : Lit → Bool) (k : Nat) (hk : k < n) (hl : left (.int .i64 k) = true) : (midL n md note left)[k]? = some (md.getD k 0) := by
  rw [midL_get n md note left k hk]
  cases note k with
  | none => rfl
  | some c => simp only [hl, if_true]
theorem midL_step (n : Nat) (md : List Nat) (note : Nat → Option Nat) (left : Lit → Bool) (k c : Nat) (hk : k < n) (hc : note k = some c) :
    midL n md note (fun z => left z && !z.sameKey (.int .i64 k)) = (midL n md note left).set k (max (md.getD k 0) c) := by
  apply List.ext_getElem?
  intro l
  rw [List.getElem?_set, midL_length]
  by_cases hkl : k = l
  · subst hkl
    rw [if_pos rfl, if_pos hk, midL_get _ _ _ _ _ hk, hc]
    simp [Go.WideAt.sameKey_self (a := .int .i64 (k : Int)) trivial]
  · rw [if_neg hkl]
    by_cases hl : l < n
    · rw [midL_get _ _ _ _ _ hl, midL_get _ _ _ _ _ hl]
      have : (Lit.int .i64 (l : Int)).sameKey (.int .i64 (k : Int)) = false := sameKey_ne (by intro h; injection h with _ h; omega)
      simp only [this, Bool.not_false, Bool.and_true]
    · rw [List.getElem?_eq_none (by rw [midL_length]; omega), List.getElem?_eq_none (by rw [midL_length]; omega)]

theorem RunSt.fence {w w' : World} {B cb mb T t : Nat} {R : Rn} (h : RunSt w B cb mb T R) (hT : T + 1 ≤ 20000) (ht : t < 8) (ho : Only (fun k => k = mb ∨ k = B + 5 + t) w w') (hm : Has w' mb (nats (fenceL R t)) 3)
    (hn : w'.ownsMap Try.prog 3 (plainElem (H := Unit) Try.prog 3) (B + 5 + t) 0 (.map [])) : RunSt w' B cb mb (T + 1) (fenceP R t) := by
  have hcm := h.cm
  obtain ⟨wa, wc, ra, rc, h1, h2, h3, h4, h5, h6⟩ := h.ex
  refine ⟨(fenceP_ok h.ok).up hT, h.cm, h.rb.only ho (by omega), ⟨wa, wc, ra, rc, h1.only ho (by omega), ownsRow_only h2 ho ?_, ownsRow_only h3 ho ?_, h4, h5, h6⟩,
    h.ct.only ho (by omega), hm, (h.cv.only ho (by omega)).up (by omega), fun t' ht' => ?_⟩
  · intro k hk hs; have := h4 _ hk; omega
  · intro k hk hs; have := h5 _ hk; omega
  · by_cases he : t' = t
    · subst he
      have e : (fenceP R t').note t' = fun _ => none := by
        funext k; simp [fenceP]
      rw [e]; exact NoteV.none hn
    · have e : (fenceP R t).note t' = R.note t' := by
        funext k; simp [fenceP, he]
      rw [e]; exact ((h.nv t' ht').only ho (by omega)).up (by omega)
theorem RunSt.drew {w : World} {B cb mb T : Nat} {R : Rn} (h : RunSt w B cb mb T R) : RunSt w.drew B cb mb T R := h.only ((Only.refl (fun _ => False) w).drew) (fun _ _ h => h)

set_option maxHeartbeats 4000000 in
set_option maxRecDepth 100000 in
theorem exec4 (B cb mb T t : Nat) (vv vo vl vn vc : Value) (R : Rn) (w : World) (h : RunSt w B cb mb T R) (hT : T + 1 ≤ 20000) (ht : t < 8) :
    Calls Try.prog 38 #[.pointer (some ⟨B + 4, 0, none⟩), .agg #[.int .u8 4, .int .i64 t, .int .u64 0, vv, vo, vl, vn, vc]] w (ExPost w B cb mb T (fenceP R t)) := by
  have ok := h.ok
  have hn2 := ok.n2
  have hsz := h.size
  have hcm := h.cm
  have hA := h.alloc (.cells #[.int .u8 4, .int .i64 t, .int .u64 0, vv, vo, vl, vn, vc] 30)
  have r0 := hA.rb.cell (o := 0) rfl
  have hrn := hA.note_cell ht
  obtain ⟨wa, wc, ra, rc, hg, _⟩ := hA.ex
  have g0 := hg.cell (o := 0) rfl
  have hE := Has.new w [.int .u8 4, .int .i64 t, .int .u64 0, vv, vo, vl, vn, vc] 30
  have e0 := hE.cell (o := 0) rfl
  have e1 := hE.cell (o := 1) rfl
  have e2 := hE.cell (o := 2) rfl
  have hd0 : decide ((0 : Int) < (R.G.n : Int) * 64) = true := decide_eq_true (by have := ok.n1; omega)
  have hdI : (0 : Int) < (R.G.n : Int) * 64 := by have := ok.n1; omega
  have hBa : Below B w (w.alloc (.cells #[.int .u8 4, .int .i64 t, .int .u64 0, vv, vo, vl, vn, vc] 30)) := (Below.refl _ _).alloc (by omega) _
  have htI : (t : Int) < 8 := by omega
  have ht0 : (0 : Int) ≤ (t : Int) := by omega
  have hszA : B + 14 ≤ (w.alloc (.cells #[.int .u8 4, .int .i64 t, .int .u64 0, vv, vo, vl, vn, vc] 30)).heap.size := by simp; omega
  generalize hpost : ExPost w B cb mb T (fenceP R t) = post
  have hend : ∀ w', RunSt w' B cb mb (T + 1) (fenceP R t) → Below B w w' → post (.returned (.tuple #[])) w' := by
    intro w' p1 p2; rw [← hpost]; exact ⟨rfl, p1, p2⟩
  replace hend := Lib.hid hend
  clear hg hpost
  go_enter Try.func38, Try.ntmps38
  go_wp2_with fail
  go_quiet (fail)
  go_wp2_with fail
  refine region_tail 7 (by kernel_rfl) (by kernel_rfl) ?_
  simp only [List.take_succ_cons, List.take_zero, List.drop_succ_cons, List.drop_zero]
  repeat still_step
  refine wpStill_nil ?_
  have hQ : RunSt ((w.alloc (.cells #[.int .u8 4, .int .i64 t, .int .u64 0, vv, vo, vl, vn, vc] 30)).drewN nq).drew B cb mb T R := (hA.drewN nq).drew
  have hBq : Below B w ((w.alloc (.cells #[.int .u8 4, .int .i64 t, .int .u64 0, vv, vo, vl, vn, vc] 30)).drewN nq).drew := (below_drewN hBa (nq + 1))
  have f1 : ((w.alloc (.cells #[.int .u8 4, .int .i64 t, .int .u64 0, vv, vo, vl, vn, vc] 30)).drewN nq).drew.cell? ⟨w.heap.size, 1, none⟩ = some (.int .i64 t) := e1
  generalize hwq : ((w.alloc (.cells #[.int .u8 4, .int .i64 t, .int .u64 0, vv, vo, vl, vn, vc] 30)).drewN nq).drew = wq at *
  have hlt : w.heap.size < wq.heap.size := by rw [← hwq]; simp
  replace hwq := Lib.hid hwq
  clear hA hE e0 e1 e2 r0 hrn g0 hBa
  obtain ⟨D, hD1, hD2, hD3, hD4, hD5⟩ := hQ.nv t ht
  have hbl := hD1.lt
  refine wpList_range_own _ rfl _ 109 rfl 3 3 key3 Try.underlying109 _ (B + 5 + t) T D rfl hD1 ?_
  intro w0 hrg0 hg0 hs0
  go_wp2_with fail
  go_frame
  go_loopw [8] (fun _ wr => ∃ (left : Lit → Bool) (cnt : Nat), wr.ranges Try.prog 3 (plainElem Try.prog 3) (B + 5 + t) wq.heap.size T D left cnt ∧ (∀ kl, left kl = true → has D kl = true) ∧
      Has wr mb (nats (midL R.G.n R.G.md (R.note t) left)) 3 ∧ Only (fun k => k = mb) wq wr) (fun _ wr => wr.rangeLeft (B + 5 + t) wq.heap.size)
  case atStart =>
    have O0 : Only (fun k => k = mb) wq w0 := (Only.of_grown hg0).mono fun k _ e => by cases e
    refine ⟨_, _, hrg0, fun _ h => h, ?_, O0⟩
    rw [midL_start R.G.n R.G.md ok.ml (R.note t) _ (fun l hl => by rw [hD4]; exact hl)]
    exact hQ.md.only ((Only.of_grown hg0).mono (S' := fun _ => False) fun k _ e => by cases e) (fun h => h)
  case round =>
    obtain ⟨left, cnt, hrg, hsub, hmm, hO⟩ := hrel
    go_wp2_with (at_next; refine wpList_next_ranges_ii _ rfl _ rfl 3 3 .i64 .i64 key3 Try.underlying3 Try.underlying3 (B + 5 + t) wq.heap.size T _ _ _ rfl hrg ?_ ?_)
    · intro _ hl0
      rw [midL_end R t left hl0] at hmm
      have f1' := hO.cell f1 (by show ¬ w.heap.size = mb; omega)
      have frn := hO.cell (hQ.note_cell ht) (by show ¬ B + 4 = mb; omega)
      go_wp2_with fail
      refine region_tail 7 (by kernel_rfl) (by kernel_rfl) ?_
      simp only [List.take_succ_cons, List.take_zero, List.drop_succ_cons, List.drop_zero]
      repeat still_step
      refine wpStill_nil ?_
      refine wpList_clear rfl (.tmp 119) 109 3 3 rfl _ (B + 5 + t) T D rfl hrg.owns Try.underlying109 ?_
      intro w6 hown6 only6
      have O6 : Only (fun k => k = mb ∨ k = B + 5 + t) wq w6 := ((hO.mono (S' := fun k => k = mb ∨ k = B + 5 + t) fun k _ h => Or.inl h).drew).trans' only6 (fun k _ h => Or.inr h)
      have hfin := hend.out w6 (RunSt.fence hQ hT ht O6 (hmm.only (((Only.refl (fun j => j = B + 5 + t) wr).drew).trans only6) (by show ¬ mb = B + 5 + t; omega)) hown6)
        (hBq.trans (O6.below (by omega) (by intro k _ h; omega)))
      clear hmm
      go_wp2_with fail
      exact bodyPost_end (results_none rfl _ _ _) rfl hfin
    · intro x c w1 cnt1 hwx hwc hlx hat hrg1 hlt1 hg1 hs1 hen
      obtain ⟨k, hk, hxk⟩ := hD3 _ (hsub _ hlx)
      simp only [Lit.int.injEq, true_and] at hxk
      subst hxk
      obtain ⟨c', hc'⟩ : ∃ c', R.note t k = some c' := by
        have := hD4 k
        rw [hsub _ hlx] at this
        exact Option.isSome_iff_exists.1 this.symm
      have hcc : c = (c' : Int) := by
        have h1 := hat (.lit (.int .i64 0))
        rw [hD5 k c' hc'] at h1
        simp only [DataW.lit.injEq, Lit.int.injEq, true_and] at h1
        exact h1.symm
      subst hcc
      obtain ⟨_, hcle⟩ := ok.no _ _ _ hc'
      have hmbl := hQ.md.lt
      have O1 : Only (fun j => j = mb) wq w1 := hO.trans' (Only.of_grown hg1) (fun j hj e => by simp at e; omega)
      have hmm1 := hmm.only (Only.of_grown hg1) (by simp; omega)
      have hstep := midL_step R.G.n R.G.md (R.note t) left k c' hk hc'
      have hmid := midL_at R.G.n R.G.md (R.note t) left k hk hlx
      have hck := hmm1.cell (nats_get _ _ _ hmid)
      have hcf := hmm1.free k
      have hset := hmm1.drew.set k (.int .i64 ((max (R.G.md.getD k 0) c' : Nat) : Int))
      obtain ⟨wa, wc, ra, rc, hg, _⟩ := hQ.ex
      have g4 := O1.cell (hg.cell (o := 4) rfl) (by show ¬ B + 2 = mb; omega)
      have hcb : c' ≤ 20000 := by
        have h1 := ok.cb
        have h2 := ok.t
        have h3 : R.G.ct.getD k 0 ≤ T := h1 _ (mem_getD 0 (by rw [ok.cl]; exact hk))
        omega
      have hmvb : R.G.md.getD k 0 ≤ 20000 := by
        have h1 := ok.cb
        have h2 := ok.t
        have h3 : R.G.ct.getD k 0 ≤ T := h1 _ (mem_getD 0 (by rw [ok.cl]; exact hk))
        have h4 := ok.mc k
        omega
      have hrel := fun (wz : World) (g : w1.grownBy wz (some mb)) (hh : Has wz mb ((nats (midL R.G.n R.G.md (R.note t) left)).set k (.int .i64 ((max (R.G.md.getD k 0) c' : Nat) : Int))) 3) => (⟨fun z => left z && !z.sameKey (.int .i64 k), cnt1, hrg1.kept g (by simp; omega) (by simp; omega), fun kl h => hsub kl (by simp at h; exact h.1), by rw [hstep]; unfold nats at hh ⊢; rw [List.map_set]; exact hh, O1.trans ((Only.of_grown g).mono fun j _ e => by simpa using e)⟩ :
        ∃ (left : Lit → Bool) (cnt : Nat), wz.ranges Try.prog 3 (plainElem Try.prog 3) (B + 5 + t) wq.heap.size T D left cnt ∧ (∀ kl, left kl = true → has D kl = true) ∧ Has wz mb (nats (midL R.G.n R.G.md (R.note t) left)) 3 ∧ Only (fun k => k = mb) wq wz)
      have hmeas := fun (wz : World) (g : w1.grownBy wz (some mb)) => (show wz.rangeLeft (B + 5 + t) wq.heap.size < wr.rangeLeft (B + 5 + t) wq.heap.size by rw [(hrg1.kept g (by simp; omega) (by simp; omega)).left_eq, hrg.left_eq]; exact hlt1)
      replace hrel := Lib.hid hrel
      replace hmeas := Lib.hid hmeas
      replace hen := hen
      have hkn : (k : Int) < R.G.n := by omega
      clear hmid hstep hat hD1 hD2 hD3 hD4 hD5 hsub hlx hwx hwc hc' hg hmm hmm1 hg1 hrg1
      generalize R.G.md.getD k 0 = mv at *
      go_wp2_with fail
      refine region_tail 15 (by kernel_rfl) (by kernel_rfl) ?_
      simp only [List.take_succ_cons, List.take_zero, List.drop_succ_cons, List.drop_zero]
      repeat still_step
      refine wpStill_nil ?_
      go_wp2_with fail
      have hmax : (if mv < c' then (c' : Int) else (mv : Int)) = ((max mv c' : Nat) : Int) := by split <;> omega
      rw [hmax]
      have hgr : w1.grownBy (w1.setCell ⟨mb, k, none⟩ (.int .i64 ((max mv c' : Nat) : Int))).drew (some mb) := ⟨rfl, rfl, rfl, by simp, fun k _ hn => heap_setCell_ne (fun e => hn (by rw [e]))⟩
      exact ⟨hrel.out _ hgr hset, hmeas.out _ hgr⟩
end Go.Proofs.Ytjmdibgncaljaaa

namespace Go.Proofs.Ytjmdibgncaljaaa
open Go.RowKit Go.Maps

theorem exec_any (B cb mb T : Nat) (e : Ev) (R : Rn) (w : World) (h : RunSt w B cb mb T R) (hT : T + 1 ≤ 20000) (he : e.Fit) (hz : 4 ≤ e.k → e.off = 0) :
    Calls Try.prog 38 #[.pointer (some ⟨B + 4, 0, none⟩), .agg #[.int .u8 (e.k : Int), .int .i64 (e.t : Int), .int .u64 (e.off : Int), .int .u64 (e.val : Int), .int .u64 (e.old : Int), .int .i64 (e.line : Int), .int .i64 e.n, e.ch]] w (ExPost w B cb mb T (execP R e)) := by
  obtain ⟨k, t, off, val, old, line, n, ch⟩ := e
  have hk := he.k
  have h2 := he.t
  have h3 := he.off
  have h4 := he.val
  have h5 := he.old
  have h6 := he.line
  have h7 := he.n
  have h8 := he.nb
  simp only at hk h2 h3 h4 h5 h6 h7 h8 hz ⊢
  obtain rfl | rfl | rfl | rfl | rfl : k = 1 ∨ k = 2 ∨ k = 3 ∨ k = 4 ∨ k = 5 := by omega
  · have hx : execP R ⟨1, t, off, val, old, line, n, ch⟩ = if off < 64 * R.G.n ∧ off % 8 = 0 then storeP R off val else R := rfl
    rw [hx]; exact exec1 B cb mb T off val _ _ _ _ _ R w h hT h3 h4
  · have hx : execP R ⟨2, t, off, val, old, line, n, ch⟩ = if (off < 64 * R.G.n ∧ off % 8 = 0) ∧ R.cur off = old then storeP R off val else R := rfl
    rw [hx]; exact exec2 B cb mb T off val old _ _ _ _ R w h hT h3 h4
  · have hx : execP R ⟨3, t, off, val, old, line, n, ch⟩ = if off < 64 * R.G.n then noteP R t (off / 64) (R.G.ct.getD (off / 64) 0) else R := rfl
    rw [hx]; exact exec3 B cb mb T t off _ _ _ _ _ R w h hT h3 h2
  · have hx : execP R ⟨4, t, off, val, old, line, n, ch⟩ = fenceP R t := rfl
    obtain rfl := hz (by omega)
    rw [hx]; exact exec4 B cb mb T t _ _ _ _ _ R w h hT h2
  · obtain rfl := hz (by omega)
    obtain ⟨m, rfl⟩ := Int.eq_ofNat_of_zero_le (h7 rfl)
    have hx : execP R ⟨5, t, 0, val, old, line, (m : Int), ch⟩ = if line < R.G.n ∧ (m : Int) ≤ (R.G.ct.getD line 0 : Int) - (R.G.md.getD line 0 : Int) then backP R line m else R := rfl
    rw [hx]; exact exec5 B cb mb T line m _ _ _ _ R w h hT h6 (by omega)

def initR (n : Nat) : Rn := ⟨⟨n, [], [], List.replicate n 0, List.replicate n 0⟩, fun _ => 0, fun _ _ => none⟩
def runP (n : Nat) (es : List Ev) : Rn := es.foldl execP (initR n)
theorem runP_snoc (n : Nat) (es : List Ev) (e : Ev) : runP n (es ++ [e]) = execP (runP n es) e := by unfold runP; rw [List.foldl_append]; rfl
theorem execP_n (R : Rn) (e : Ev) : (execP R e).G.n = R.G.n := by
  unfold execP
  (repeat' split) <;> rfl
theorem runP_n (n : Nat) (es : List Ev) : (runP n es).G.n = n := by
  unfold runP
  have : ∀ (es : List Ev) (R : Rn), (es.foldl execP R).G.n = R.G.n := by
    intro es
    induction es with
    | nil => intro R; rfl
    | cons e es ih => intro R; rw [List.foldl_cons, ih, execP_n]
  rw [this]; rfl
theorem initR_ok (n : Nat) (h1 : 1 ≤ n) (h2 : n ≤ 4096) : (initR n).Ok 0 := by
  have g : ∀ k, (List.replicate n 0).getD k 0 = 0 := by intro k; rw [List.getD, List.getElem?_replicate]; split <;> rfl
  refine ⟨by omega, h1, h2, Nat.le_refl _, rfl, by simp [initR], by simp [initR], by simp [initR], by simp [initR], by simp [initR], ?_, ?_, ?_, ?_⟩
  · intro c hc; have := (List.mem_replicate.1 hc).2; omega
  · intro k; show (List.replicate n 0).getD k 0 ≤ (List.replicate n 0).getD k 0; exact Nat.le_refl _
  · intro k; show 0 < _; omega
  · intro t k c hc; cases hc

/-- The cells of a run whose first t notes are made. -/
def runCells (B t : Nat) : List Value := [.pointer (some ⟨B + 2, 0, none⟩), .map (some (B + 3))] ++ (List.range 8).map fun j => if j < t then Value.map (some (B + 5 + j)) else Value.map none
structure InitSt (w : World) (B cb mb n t : Nat) : Prop where
  cm : cb + mb = 2 * B + 1 ∧ B ≤ cb ∧ B ≤ mb
  ct : Has w cb (List.replicate n (.int .i64 0)) 3
  md : Has w mb (List.replicate n (.int .i64 0)) 3
  gr : Has w (B + 2) [.int .i64 (n : Int), .slice none 0 0, .slice none 0 0, .slice (some ⟨cb, 0, none⟩) n n, .slice (some ⟨mb, 0, none⟩) n n] 106
  cur : w.heap[B + 3]? = some (.map #[] 0)
  run : Has w (B + 4) (runCells B t) 112
  notes : ∀ j, j < t → w.heap[B + 5 + j]? = some (.map #[] 0)
  sz : w.heap.size = B + 5 + t
theorem runCells_len (B t : Nat) : (runCells B t).length = 10 := by simp [runCells]
theorem runCells_set (B t : Nat) (ht : t < 8) : (runCells B t).set (2 + t) (.map (some (B + 5 + t))) = runCells B (t + 1) := by
  match t, ht with
  | 0, _ | 1, _ | 2, _ | 3, _ | 4, _ | 5, _ | 6, _ | 7, _ => rfl
theorem own_empty {w : World} {P : Program} {k : TypeId} {R : Value → Option (DataW Unit × List MemPlace)} {b : Nat} (h : w.heap[b]? = some (.map #[] 0)) : w.ownsMap P k R b 0 (.map []) := by
  have h0 := World.ownsMap_made (H := Unit) w P k R
  obtain ⟨es, cl, hb, r⟩ := h0
  rw [heap_alloc_new] at hb
  cases hb
  exact ⟨#[], 0, h, r⟩
theorem InitSt.step {w w' : World} {B cb mb n t : Nat} (h : InitSt w B cb mb n t) (ht : t < 8) (ho : w' = (w.alloc (.map #[] 0)).setCell ⟨B + 4, 2 + t, none⟩ (.map (some (B + 5 + t)))) : InitSt w' B cb mb n (t + 1) := by
  subst ho
  have hcm := h.cm
  have hz := h.sz
  have O : Only (fun k => k = B + 4) w ((w.alloc (.map #[] 0)).setCell ⟨B + 4, 2 + t, none⟩ (.map (some (B + 5 + t)))) := ((Only.refl (fun k => k = B + 4) w).alloc _).setCell (fun _ => rfl) _
  refine ⟨hcm, h.ct.only O (by omega), h.md.only O (by omega), h.gr.only O (by omega), ?_, ?_, ?_, ?_⟩
  · rw [O.block _ (by omega) (by omega)]; exact h.cur
  · have := (h.run.alloc (.map #[] 0)).set (2 + t) (.map (some (B + 5 + t)))
    rw [runCells_set B t ht] at this
    exact this
  · intro j hj
    rcases Nat.lt_or_ge j t with h1 | h1
    · rw [O.block _ (by omega) (by omega)]; exact h.notes j h1
    · obtain rfl : j = t := by omega
      rw [heap_setCell_ne (by show B + 5 + j ≠ B + 4; omega), ← hz]
      exact heap_alloc_new
  · simp; omega
theorem InitSt.run0 {w : World} {B cb mb n : Nat} (h : InitSt w B cb mb n 8) (h1 : 1 ≤ n) (h2 : n ≤ 4096) : RunSt w B cb mb 0 (initR n) := by
  refine ⟨initR_ok n h1 h2, h.cm, h.run, ?_, ?_, ?_, ?_, ?_⟩
  · refine ⟨none, 0, none, 0, h.gr, World.ownsRow_nil _ _ _ _, World.ownsRow_nil _ _ _ _, ?_, ?_, ?_⟩
    · intro k hk; cases hk
    · intro k hk; cases hk
    · intro k hk; cases hk
  · simpa [initR, nats] using h.ct
  · simpa [initR, nats] using h.md
  · exact ⟨.map [], own_empty h.cur, ⟨[], rfl⟩, fun k _ => rfl⟩
  · intro t ht
    exact NoteV.none (own_empty (h.notes t ht))
theorem RunSt.graph {w : World} {B cb mb T : Nat} {R : Rn} (h : RunSt w B cb mb T R) : GraphSt w (B + 2) R.G := by
  have ok := h.ok
  have hT := ok.t
  obtain ⟨wa, wc, ra, rc, h1, h2, h3, _⟩ := h.ex
  have hcl := ok.cl
  have hml := ok.ml
  have e1 : Rd w (.slice (some ⟨cb, 0, none⟩) R.G.n R.G.n) R.G.n (nats R.G.ct) := Rd.of_has h.ct _ _
  have e2 : Rd w (.slice (some ⟨mb, 0, none⟩) R.G.n R.G.n) R.G.n (nats R.G.md) := Rd.of_has h.md _ _
  refine ⟨⟨ok.n1, ok.n2, by have := ok.wl; omega, ok.rl, ok.cl, ok.ml, ok.off, fun r hr => by have := ok.rb r hr; omega, fun c hc => by have := ok.cb c hc; omega, ?_, ok.mc, ok.al⟩, wa, wc, ra, rc, _, _, h1, Rd.of_own h2, Rd.of_own h3, e1, e2⟩
  intro m hm
  obtain ⟨i, hi, rfl⟩ := List.getElem_of_mem hm
  have hc := ok.mc i
  have hl : R.G.ct.getD i 0 ≤ T := ok.cb _ (mem_getD 0 (by omega))
  have e : R.G.md.getD i 0 = R.G.md[i] := by rw [List.getD, List.getElem?_eq_getElem hi]; rfl
  omega
end Go.Proofs.Ytjmdibgncaljaaa
