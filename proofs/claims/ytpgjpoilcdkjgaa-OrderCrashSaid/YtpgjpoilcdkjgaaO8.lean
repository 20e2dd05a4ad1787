/- The walk of run.store. -/
import Derived.Test.YtpgjpoilcdkjgaaO7
import Derived.Deep.RegionLaw
namespace Go.Proofs.Ytpgjpoilcdkjgaa
open Go.RowKit Go.Maps

theorem wcells_snoc (ws : List (Nat × Nat)) (p : Nat × Nat) : wcells (ws ++ [p]) = wcells ws ++ [.int .u64 p.1, .int .u64 p.2] := by simp [wcells]
theorem nats_snoc (l : List Nat) (n : Nat) : nats (l ++ [n]) = nats l ++ [.int .i64 (n : Int)] := by simp [nats]
theorem Only.of_keptBy {S : Nat → Prop} {w w' : World} {row : Option Nat} (h : w.grownBy w' row) (hs : ∀ k, row = some k → S k) : Only S w w' :=
  (Only.of_grown h).mono fun k _ e => hs k e.symm
/-- My append as a step of a region that draws its order: one element of one cell, boxed in block g. -/
theorem step_app1 {P : Program} {w : World} {ops : Array Oper} {o : Oper} {a : Act} {K : Act → World → Prop} {Q : Exit → Act → World → Prop} {E : Prop} (hgd : o.guard = none) (s x : Operand) (t : TypeId)
    (ho : o.op = .call { callee := .builtin .append, args := #[s, x], argTypes := #[t, t] })
    (e : TypeId) (z : Value) (bytes : Nat) (ht : P.underlying t = some (.slice e))
    (hi : (P.info? e).map (fun i => (i.zero, i.size, i.bytes)) = some (some z, 1, bytes)) (hzs : z.cells.size = 1) (hby : 0 < bytes)
    (sa : Option Addr) (n cap : Nat) (xs : List Value) (hs : a.eval s = .slice sa n cap) (u : Value) (hown : w.ownsRow 0 e 1 (.slice sa n cap) n xs)
    (g : Nat) (hx : a.eval x = .slice (some ⟨g, 0, none⟩) 1 1) (hg : w.cell? ⟨g, 0, none⟩ = some u) (h1 : u.oneCell' = true)
    (hbytes : (n + 1) * bytes ≤ 140737488355328)
    (h : ∀ sa' cap' w', w'.ownsRow 0 e 1 (.slice sa' (n + 1) cap') (n + 1) (xs ++ [u]) → Only (fun k => Value.ownBlock (.slice sa n cap) = some k) w w' →
      (∀ k, Value.ownBlock (.slice sa' (n + 1) cap') = some k → Value.ownBlock (.slice sa n cap) = some k ∨ w.heap.size ≤ k) → K (a.put o.dst (.slice sa' (n + 1) cap')) w') :
    if Region.wanted o (yielded ops a.tmps) = true then Oper.wp P o a w K Q else E := by
  have hw : Region.wanted o (yielded ops a.tmps) = true := by simp [Region.wanted, hgd]
  rw [if_pos hw]
  obtain ⟨sa', cap', w', hr, h2, h3, h4⟩ := app_run (P := P) w t o.type e z 1 bytes ht hi hzs (by decide) hby sa n cap xs hown ⟨g, 0, none⟩ 1 1 [u] rfl (by
    intro j y hj
    match j, hj with
    | 0, hj => simp at hj; subst hj; simpa [Addr.add] using hg
    | j + 1, hj => simp at hj) (by simpa using h1) hbytes
  unfold Oper.wp execOp
  simp only [ho, resolve, invoke, builtin, Sem.run_bind, Sem.run_pure, Result.andThen_ok, List.map_toArray, List.map_cons, List.map_nil, hs, hx, hr]
  exact h sa' cap' w' h2 h3 h4

theorem wf_u64 {n : Nat} (h : n < 18446744073709551616) : (Lit.int .u64 (n : Int)).wf = true := by
  simp only [Lit.wf, Bool.and_eq_true, decide_eq_true_eq]
  have e1 : IntKind.min .u64 = 0 := by decide
  have e2 : IntKind.max .u64 = 18446744073709551615 := by decide
  rw [e1, e2]; omega
theorem wf_i64 {n : Nat} (h : n < 9223372036854775808) : (Lit.int .i64 (n : Int)).wf = true := by
  simp only [Lit.wf, Bool.and_eq_true, decide_eq_true_eq]
  have e1 : IntKind.min .i64 = -9223372036854775808 := by decide
  have e2 : IntKind.max .i64 = 9223372036854775807 := by decide
  rw [e1, e2]; omega
theorem CurV.put {w' : World} {b T off v : Nat} {cur : Nat → Nat} {D : DataW Unit} (ho : off < 18446744073709551616) (hD2 : IsMap D)
    (hD3 : ∀ k : Nat, k < 18446744073709551616 → D.atKey (.int .u64 k) (.lit (.int .u64 0)) = .lit (.int .u64 (cur k : Int)))
    (h : w'.ownsMap Try.prog 42 (plainElem Try.prog 42) b T (D.put (.int .u64 off) (.lit (.int .u64 v)))) : CurV w' b T (fun k => if k = off then v else cur k) := by
  refine ⟨_, h, hD2.put _ _, fun k hk => ?_⟩
  show _ = DataW.lit (Lit.int .u64 ((if k = off then v else cur k : Nat) : Int))
  by_cases he : k = off
  · subst he
    rw [if_pos rfl]
    exact atKey_put_same hD2 (key42.key (keyOf_int_mk Try.underlying42 (wf_u64 ho))) _ _
  · rw [if_neg he, atKey_put_other (by intro h; injection h with _ h; omega)]
    exact hD3 k hk

theorem ret_post {post : Ending → World → Prop} {e e' : Ending} {w : World} (h : post e w) (he : e = e') : post e' w := he ▸ h

set_option maxHeartbeats 4000000 in
set_option maxRecDepth 100000 in
theorem store_any (B cb mb T off v : Nat) (R : Rn) (w : World) (h : RunSt w B cb mb T R) (hT : T + 1 ≤ 20000) (ho : off < 64 * R.G.n) (ha : off % 8 = 0) (hv : v < 18446744073709551616) :
    Calls Try.prog 73 #[.pointer (some ⟨B + 4, 0, none⟩), .int .u64 off, .int .u64 v] w fun e w' => e = .returned (.tuple #[]) ∧ RunSt w' B cb mb (T + 1) (storeP R off v) ∧ Below B w w' := by
  have ok := h.ok
  have okS := storeP_ok ok hT ho ha hv
  have hn2 := ok.n2
  have hwl := ok.wl
  have hcm := h.cm
  obtain ⟨wa, wc, ra, rc, hg, how, hor, hwb, hrb, hne⟩ := h.ex
  have hgl := hg.lt
  have hrl := h.rb.lt
  have r0 := h.rb.cell (o := 0) rfl
  have hsz : B + 13 ≤ w.heap.size := by
    obtain ⟨D, ⟨es, cl, hb, _⟩, _⟩ := h.nv 7 (by omega)
    have := heap_lt hb
    omega
  have hoff : off < 18446744073709551616 := by omega
  go_enter Try.func73, Try.ntmps73
  go_wp2_with fail
  go_quiet ((go_at_call 45; exact Calls.quiet_of_same (lineOf_q off _ hoff)))
  have hg0 := hg.drewN nq
  have hl : off / 64 < R.G.ct.length := by rw [ok.cl]; omega
  obtain ⟨ln, hln⟩ : ∃ ln, ln = off / 64 := ⟨_, rfl⟩
  rw [← hln] at hl
  rw [← hln]
  replace hln := Lib.hid hln
  have c1 := hg.cell (o := 1) rfl
  have hW := Has.new (w.drewN nq) [.int .u64 off, .int .u64 v] 59
  have W1 := hW.cell (o := 0) rfl
  have W2 := hW.cell (o := 1) rfl
  have how1 : (w.drewN nq).ownsRow 0 59 2 (.slice wa R.G.ws.length wc) R.G.ws.length (wcells R.G.ws) := how
  go_wp2_with (at_builtin; refine wpList_app rfl (.tmp 18) (.tmp 22) 88 rfl 59 (.agg #[.int .u64 0, .int .u64 0]) 2 16 Try.underlying88 info59 rfl (by decide) (by decide) wa R.G.ws.length wc (wcells R.G.ws) (how1.alloc _) rfl _ 1 1 [.int .u64 off, .int .u64 v] rfl rfl ?hnews (by simp [Value.oneCell']) ?hby ?_)
  case hnews =>
    intro j u hj
    match j, hj with
    | 0, hj => simp at hj; subst hj; exact W1
    | 1, hj => simp at hj; subst hj; exact W2
    | j + 2, hj => simp at hj
  case hby => omega
  intro sa cap w1 own1 only1 fresh1
  have O1 : Only (fun k => Value.ownBlock (.slice wa R.G.ws.length wc) = some k) w w1 := (((Only.refl _ w).drewN nq).alloc _).trans only1
  have hsz1 := O1.size
  have fr1 : ∀ k, Value.ownBlock (.slice sa (R.G.ws.length + 1) cap) = some k → B + 13 ≤ k := by
    intro k hk
    rcases fresh1 k hk with h1 | h1
    · exact hwb k h1
    · first | omega | (simp at h1; omega)
  have nwa : ∀ k, k < B + 13 → ¬ Value.ownBlock (.slice wa R.G.ws.length wc) = some k := fun k hk e => by have := hwb k e; omega
  have g1 := hg.only O1 (nwa _ (by omega))
  have g1c := g1.cell (o := 1) rfl
  have g1f := g1.free 1
  have g2 := g1.set 1 (.slice sa (R.G.ws.length + 1) cap)
  have O2 : Only (fun k => Value.ownBlock (.slice wa R.G.ws.length wc) = some k ∨ k = B + 2) w (w1.setCell ⟨B + 2, 1, none⟩ (.slice sa (R.G.ws.length + 1) cap)) :=
    (O1.mono (S' := fun k => Value.ownBlock (.slice wa R.G.ws.length wc) = some k ∨ k = B + 2) fun k _ hk => Or.inl hk).setCell (a := ⟨B + 2, 1, none⟩) (fun _ => Or.inr rfl) _
  have hcb : cb ≠ B + 2 := by omega
  have hct2 := h.ct.only O2 (by
    rintro (hk | hk)
    · exact nwa _ (by omega) hk
    · omega)
  have hor2 := ownsRow_only hor O2 (by
    rintro k hk (hs | hs)
    · exact hne k hs hk
    · have := hrb k hk; omega)
  have own2 : (w1.setCell ⟨B + 2, 1, none⟩ (.slice sa (R.G.ws.length + 1) cap)).ownsRow 0 59 2 (.slice sa (R.G.ws.length + 1) cap) (R.G.ws.length + 1) (wcells R.G.ws ++ [.int .u64 off, .int .u64 v]) :=
    ownsRow_only own1 ((Only.refl (fun k => k = B + 2) w1).setCell (a := ⟨B + 2, 1, none⟩) (fun _ => rfl) _) (by rintro k hk rfl; have := fr1 _ hk; omega)
  have dj : ∀ k, Value.ownBlock (.slice sa (R.G.ws.length + 1) cap) = some k → ¬ Value.ownBlock (.slice ra R.G.ws.length rc) = some k := by
    intro k hk hk2
    rcases fresh1 k hk with h1 | h1
    · exact hne k h1 hk2
    · have := ownsRow_lt hor hk2
      first | omega | (simp at h1; omega)
  clear own1 g1 only1 fresh1 W1 W2 hW c1 hg0
  go_wp2_with fail
  generalize hw2 : w1.setCell ⟨B + 2, 1, none⟩ (.slice sa (R.G.ws.length + 1) cap) = w2 at *
  replace hw2 := Lib.hid hw2
  have hcc := hct2.cell (o := ln) (nats_get R.G.ct _ _ (get_of_lt 0 hl))
  have hcl : R.G.ct.getD (ln) 0 ≤ T := ok.cb _ (mem_getD 0 hl)
  have q2 := g2.cell (o := 2) rfl
  have q3 := g2.cell (o := 3) rfl
  have q2f := g2.free 2
  have hlI : (ln : Int) < (R.G.n : Int) := by have := ok.cl; omega
  have hl0 : (0 : Int) ≤ (ln : Int) := by omega
  have z2 := g2.lt
  have zc := hct2.lt
  have O2s := O2.size
  generalize hcv : R.G.ct.getD (ln) 0 = cv at *
  replace hcv := Lib.hid hcv
  have nra : ∀ k, k < B + 13 → ¬ Value.ownBlock (.slice ra R.G.ws.length rc) = some k := fun k hk e => by have := hrb k e; omega
  have X2 := (g2.alloc (.cells #[.int .i64 cv] 3)).cell (o := 2) rfl
  have X3 := (g2.alloc (.cells #[.int .i64 cv] 3)).cell (o := 3) rfl
  have X4 := ((Only.refl (fun _ => False) w2).alloc (.cells #[.int .i64 cv] 3)).cell hcc (by simp)
  go_region_law ((refine step_app1 (by rfl) _ _ _ (by rfl) 3 (.int .i64 0) 8 Try.underlying33 info3 (by rfl) (by decide) ra R.G.ws.length rc (nats R.G.rk) (by rfl) (.int .i64 cv) ((hor2.alloc _).drew) w2.heap.size (by rfl) ((Has.new w2 [.int .i64 cv] 3).cell (o := 0) rfl) (by simp [Value.oneCell']) (by omega) ?_; intro sb capb w3 own3 only3 fresh3; have g3 := Has.only (g2.alloc (.cells #[.int .i64 cv] 3)).drew only3 (nra _ (by omega)); have f3 := g3.free 2; have fc3 := g3.cell (o := 2) rfl))
  all_goals
    have nra : ∀ k, k < B + 13 → ¬ Value.ownBlock (.slice ra R.G.ws.length rc) = some k := fun k hk e => by have := hrb k e; omega
    have g4 := g3.set 2 (.slice sb (R.G.ws.length + 1) capb)
    have O3 : Only (fun k => Value.ownBlock (.slice wa R.G.ws.length wc) = some k ∨ Value.ownBlock (.slice ra R.G.ws.length rc) = some k ∨ k = B + 2) w w3 :=
      (((O2.mono (S' := fun k => Value.ownBlock (.slice wa R.G.ws.length wc) = some k ∨ Value.ownBlock (.slice ra R.G.ws.length rc) = some k ∨ k = B + 2) (by rintro k _ (hk | hk); exact Or.inl hk; exact Or.inr (Or.inr hk))).alloc (.cells #[.int .i64 cv] 3)).drew).trans' only3 (fun k _ hk => Or.inr (Or.inl hk))
    have O4 := O3.setCell (a := ⟨B + 2, 2, none⟩) (fun _ => Or.inr (Or.inr rfl)) (.slice sb (R.G.ws.length + 1) capb)
    have nS : ∀ k, k < B + 13 → k ≠ B + 2 → ¬ (Value.ownBlock (.slice wa R.G.ws.length wc) = some k ∨ Value.ownBlock (.slice ra R.G.ws.length rc) = some k ∨ k = B + 2) := by
      rintro k hk hk2 (h1 | h1 | h1)
      · exact nwa k hk h1
      · exact nra k hk h1
      · exact hk2 h1
    have ct4 := h.ct.only O4 (nS _ (by omega) (by omega))
    have hcc4 := ct4.cell (o := ln) (nats_get R.G.ct _ _ (get_of_lt 0 hl))
    rw [hcv.out] at hcc4
    have hcf4 := ct4.free ln
    have q43 := g4.cell (o := 3) rfl
    have own3w : w3.ownsRow 0 59 2 (.slice sa (R.G.ws.length + 1) cap) (R.G.ws.length + 1) (wcells R.G.ws ++ [.int .u64 off, .int .u64 v]) :=
      ownsRow_only (ownsRow_only own2 (((Only.refl (fun _ => False) w2).alloc (.cells #[.int .i64 cv] 3)).drew) (fun _ _ h => h)) only3 dj
    have own4 : (w3.setCell ⟨B + 2, 2, none⟩ (.slice sb (R.G.ws.length + 1) capb)).ownsRow 0 59 2 (.slice sa (R.G.ws.length + 1) cap) (R.G.ws.length + 1) (wcells R.G.ws ++ [.int .u64 off, .int .u64 v]) :=
      ownsRow_only own3w ((Only.refl (fun k => k = B + 2) w3).setCell (a := ⟨B + 2, 2, none⟩) (fun _ => rfl) _) (by rintro k hk rfl; have := fr1 _ hk; omega)
    have fr3 : ∀ k, Value.ownBlock (.slice sb (R.G.ws.length + 1) capb) = some k → B + 13 ≤ k := by
      intro k hk
      rcases fresh3 k hk with h1 | h1
      · exact hrb k h1
      · have : w2.heap.size + 1 ≤ k := by simpa using h1
        omega
    have own4r : (w3.setCell ⟨B + 2, 2, none⟩ (.slice sb (R.G.ws.length + 1) capb)).ownsRow 0 3 1 (.slice sb (R.G.ws.length + 1) capb) (R.G.ws.length + 1) (nats R.G.rk ++ [.int .i64 cv]) :=
      ownsRow_only own3 ((Only.refl (fun k => k = B + 2) w3).setCell (a := ⟨B + 2, 2, none⟩) (fun _ => rfl) _) (by rintro k hk rfl; have := fr3 _ hk; omega)
    have dj2 : ∀ k, Value.ownBlock (.slice sa (R.G.ws.length + 1) cap) = some k → Value.ownBlock (.slice sb (R.G.ws.length + 1) capb) ≠ some k := by
      intro k hk hk2
      rcases fresh3 k hk2 with h1 | h1
      · exact dj k hk h1
      · have h2 : w2.heap.size + 1 ≤ k := by simpa using h1
        have := ownsRow_lt own2 hk
        omega
    have hcl2 : cv + 1 ≤ 20000 := by omega
    have ct5 := ct4.set ln (.int .i64 ((cv : Int) + 1))
    have g5 := g4.set_ne (a := ⟨cb, ln, none⟩) (by show B + 2 ≠ cb; omega) (.int .i64 ((cv : Int) + 1))
    have O5 := (O4.mono (S' := fun k => (Value.ownBlock (.slice wa R.G.ws.length wc) = some k ∨ Value.ownBlock (.slice ra R.G.ws.length rc) = some k ∨ k = B + 2) ∨ k = cb) (fun k _ hk => Or.inl hk)).setCell (a := ⟨cb, ln, none⟩) (fun _ => Or.inr rfl) (.int .i64 ((cv : Int) + 1))
    have nS5 : ∀ k, k < B + 13 → k ≠ B + 2 → k ≠ cb → ¬ ((Value.ownBlock (.slice wa R.G.ws.length wc) = some k ∨ Value.ownBlock (.slice ra R.G.ws.length rc) = some k ∨ k = B + 2) ∨ k = cb) := by
      rintro k h1 h2 h3 (h4 | h4)
      · exact nS k h1 h2 h4
      · exact h3 h4
    have own5 := ownsRow_only own4 ((Only.refl (fun k => k = cb) _).setCell (a := ⟨cb, ln, none⟩) (fun _ => rfl) (.int .i64 ((cv : Int) + 1))) (by rintro k hk rfl; have := fr1 _ hk; omega)
    have own5r := ownsRow_only own4r ((Only.refl (fun k => k = cb) _).setCell (a := ⟨cb, ln, none⟩) (fun _ => rfl) (.int .i64 ((cv : Int) + 1))) (by rintro k hk rfl; have := fr3 _ hk; omega)
    have r5 := h.rb.only O5 (nS5 _ (by omega) (by omega) (by omega))
    have r51 := r5.cell (o := 1) rfl
    have cv5 := h.cv.only O5 (nS5 _ (by omega) (by omega) (by omega))
    obtain ⟨D, hD1, hD2, hD3⟩ := cv5
    have hkey := keyOf_int_mk Try.underlying42 (a := (off : Int)) (q := .u64) (P := Try.prog) (wf_u64 hoff)
    have hval := plainElem_int (H := Unit) Try.underlying42 (a := (v : Int)) (q := .u64) (P := Try.prog) (wf_u64 hv)
    clear own3w own3 own2 own4 own4r how how1 fresh3
    go_wp2_with (at_mapUpdate; refine wpList_mapUpdate_own _ rfl _ _ _ 92 rfl 42 42 key42 Try.underlying92 _ (B + 3) T D rfl hD1 (by unfold maxLen; omega) _ _ _ rfl rfl hkey _ [] hval ?_; intro w6 hown6 hgrow6)
    have O6 := (O5.mono (S' := fun k => ((Value.ownBlock (.slice wa R.G.ws.length wc) = some k ∨ Value.ownBlock (.slice ra R.G.ws.length rc) = some k ∨ k = B + 2) ∨ k = cb) ∨ k = B + 3) (fun k _ hk => Or.inl hk)).trans' (Only.of_grown hgrow6) (fun k _ hk => Or.inr (by simpa using hk))
    have nS6 : ∀ k, k < B + 13 → k ≠ B + 2 → k ≠ cb → k ≠ B + 3 → ¬ (((Value.ownBlock (.slice wa R.G.ws.length wc) = some k ∨ Value.ownBlock (.slice ra R.G.ws.length rc) = some k ∨ k = B + 2) ∨ k = cb) ∨ k = B + 3) := by
      rintro k h1 h2 h3 h4 (h5 | h5)
      · exact nS5 k h1 h2 h3 h5
      · exact h4 h5
    have G6 := Only.of_grown hgrow6
    refine bodyPost_end (results_none rfl _ _ _) rfl ⟨rfl, ⟨okS, hcm, h.rb.only O6 (nS6 _ (by omega) (by omega) (by omega) (by omega)), ?_, ?_, h.md.only O6 (nS6 _ (by omega) (by omega) (by omega) (by omega)), ?_, ?_⟩, ?_⟩
    · refine ⟨sa, cap, sb, capb, ?_, ?_, ?_, ?_, ?_, ?_⟩
      · have := g5.only G6 (by simp)
        simpa [storeP] using this
      · have := ownsRow_only own5 G6 (by intro k hk h1; have := fr1 k hk; simp at h1; omega)
        simp only [storeP, List.length_append, List.length_singleton, wcells_snoc]
        exact this
      · have := ownsRow_only own5r G6 (by intro k hk h1; have := fr3 k hk; simp at h1; omega)
        simp only [storeP, List.length_append, List.length_singleton, nats_snoc]
        rw [← hln.out, hcv.out]
        exact this
      · simpa [storeP] using fr1
      · simpa [storeP] using fr3
      · simpa [storeP] using dj2
    · have := ct5.only G6 (by simp; omega)
      simp only [storeP]
      rw [← hln.out, hcv.out]
      unfold nats at *
      rw [List.map_set]
      exact this
    · exact CurV.put hoff hD2 hD3 hown6
    · intro t ht
      exact ((h.nv t ht).only O6 (nS6 _ (by omega) (by omega) (by omega) (by omega))).up (by omega)
    · exact O6.below (by omega) (by
        rintro k hk (((h1 | h1 | h1) | h1) | h1)
        · have := hwb k h1; omega
        · have := hrb k h1; omega
        · omega
        · omega
        · omega)
end Go.Proofs.Ytpgjpoilcdkjgaa
