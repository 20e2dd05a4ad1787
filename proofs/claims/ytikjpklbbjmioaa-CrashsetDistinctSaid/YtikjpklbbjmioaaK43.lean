/- crashset: Distinct. -/
import Derived.Test.YtikjpklbbjmioaaK42
import Derived.Test.YtikjpklbbjmioaaK28
import Derived.DeepKeys4
namespace Go.Proofs.Ytikjpklbbjmioaa
open Go.RowKit Go.Maps
attribute [local go_sem] Oper.semAt_some
variable {w : World} {F : Own} {o T : Nat} {R : Dv} {L : Lay}
/-! ### keys -/
theorem laidC : laidOutB Try.prog = true := by kernel_rfl
theorem rowCont : (140 : TypeId) < Try.prog.types.size := of_decide_eq_true (by kernel_rfl)
theorem wideCont : (match Try.prog.underlying 140 with | some (.array _ _) | some (.struct _) => true | _ => false) = true := by rw [Try.underlying140]
set_option maxRecDepth 100000 in
theorem contKeyed : Keyed Try.prog 140 := Keyed.of_law (deep_law_laid laidC (m := 2) (by omega) rowCont (by kernel_rfl) wideCont)
theorem strKeyed : Keyed Try.prog 9 := string_keyed Try.underlying9
theorem keyLits_contD {a : List Nat} (d : Nat) (h : ∀ x ∈ a, x < 18446744073709551616) : Try.prog.keyLits (d + 2) 140 (aggW a).cells.toList = some (litsW a) := by
  have k := fun j => kl1 (wat_lt h j) d
  unfold Program.keyLits
  have e : (aggW a).cells.toList = cellsW a := rfl
  rw [Try.underlying140, cellsCont, e]
  simp only [cellsU64q]
  have hr : List.range 8 = [0, 1, 2, 3, 4, 5, 6, 7] := rfl
  simp only [hr]
  simp [List.mapM_cons, cellsW, k, litsW]
def contKey (a : List Nat) : Lit := .string (keyBytes (litsW a))
theorem keyOf_cont {a : List Nat} (h : ∀ x ∈ a, x < 18446744073709551616) : keyOf Try.prog 140 (aggW a) = some (contKey a) := by
  have h1 : Try.prog.keyType 140 = true := by kernel_rfl
  have h2 : (aggW a).formed Try.prog 140 = true := by simp [Value.formed, aggW, Try.underlying140, cellsCont]
  obtain ⟨m, hm⟩ : ∃ m, Try.prog.types.size + 1 = m + 2 := ⟨Try.prog.types.size - 1, by have : 0 < Try.prog.types.size := Nat.lt_of_le_of_lt (Nat.zero_le _) rowCont; omega⟩
  unfold keyOf
  rw [Try.underlying140]
  simp only [h1, h2, Bool.and_self, if_true, hm, keyLits_contD m h]
  rfl
theorem contKey_inj {a b : List Nat} (ha : ∀ x ∈ a, x < 18446744073709551616) (hb : ∀ x ∈ b, x < 18446744073709551616) (la : a.length = 8) (lb : b.length = 8) (h : contKey a = contKey b) : a = b := by
  have e := contKeyed.inj (keyOf_cont ha) (by rw [h]; exact keyOf_cont hb)
  refine litsW_inj la lb ?_
  have e2 : cellsW a = cellsW b := by
    unfold aggW at e
    injection e with e
    exact congrArg Array.toList e
  unfold cellsW at e2
  unfold litsW
  simp only [List.cons.injEq, Value.int.injEq, true_and, and_true] at e2
  obtain ⟨e0, e1, e2, e3, e4, e5, e6, e7⟩ := e2
  rw [e0, e1, e2, e3, e4, e5, e6, e7]
/-! ### maps that are only filled -/
theorem wpList_insertM {P : Program} {w w' : World} {ops : Array Oper} {rest : List Oper} {o : Oper} {a : Act} {Q : Exit → Act → World → Prop} (hgd : o.guard = none) (m x v : Operand) (t : TypeId)
    (ho : o.op = .insert t m x v) (hrun : (Instr.mapUpdate t (a.eval m) (a.eval x) (a.eval v)).run P w = .ok () w') (h : wpList P ops Q rest (a.put o.dst undef) w') : wpList P ops Q (o :: rest) a w := by
  refine wpList_plain hgd fun K hK => ?_
  unfold Oper.wp
  simp [execOp, ho, hrun, Result.andThen]
  exact hK _ _ h
theorem wpList_updateM {P : Program} {w w' : World} {ops : Array Oper} {rest : List Oper} {o : Oper} {a : Act} {Q : Exit → Act → World → Prop} (hgd : o.guard = none) (m x v : Operand) (t : TypeId)
    (ho : o.op = .mapUpdate t m x v) (hrun : (Instr.mapUpdate t (a.eval m) (a.eval x) (a.eval v)).run P w = .ok () w') (h : wpList P ops Q rest (a.put o.dst undef) w') : wpList P ops Q (o :: rest) a w := by
  refine wpList_plain hgd fun K hK => ?_
  unfold Oper.wp
  simp [execOp, ho, hrun, Result.andThen]
  exact hK _ _ h
/-- Block b is the set of these keys. -/
def SetOf (w : World) (k : TypeId) (b : Nat) (xs : List Lit) : Prop := w.ownsMap Try.prog k (plainElem (H := Unit) Try.prog 4) b xs.length (setOf (.lit (.bool true)) xs)
theorem SetOf.made (w : World) (k : TypeId) : SetOf (w.alloc (.map #[] 0)) k w.heap.size [] := World.ownsMap_made w Try.prog k _
theorem SetOf.lt {k : TypeId} {b : Nat} {xs : List Lit} (h : SetOf w k b xs) : b < w.heap.size := World.ownsMap.lt h
theorem SetOf.only {S : Nat → Prop} {w' : World} {k : TypeId} {b : Nat} {xs : List Lit} (h : SetOf w k b xs) (ho : Only S w w') (hs : ¬ S b) : SetOf w' k b xs := by
  have hlt := h.lt
  obtain ⟨es, clock, hb, F, h3, hD⟩ := h
  exact ⟨es, clock, (ho.block b hlt hs).trans hb, F, h3, hD⟩
theorem SetOf.put {k t : TypeId} {b : Nat} {xs : List Lit} (h : SetOf w k b xs) (K : Keyed Try.prog k) (ht : Try.prog.underlying t = some (.map k 4)) (hn : xs.length < 1000000) {key : Value} {kl : Lit} (hkey : keyOf Try.prog k key = some kl) :
    ∃ w', (Instr.mapUpdate t (.map (some b)) key (.bool true)).run Try.prog w = .ok () w' ∧ SetOf w' k b (xs ++ [kl]) ∧ Only (fun j => j = b) w w' := by
  obtain ⟨w', h1, h2, h3⟩ := World.ownsMap.update h K ht (by unfold maxLen; omega) hkey (plainElem_bool Try.underlying4 true)
  refine ⟨w', h1, ?_, (Only.of_grown h3).mono fun k _ e => by simpa using e⟩
  unfold SetOf
  rw [setOf_snoc, List.length_append]
  exact h2
theorem SetOf.len {k t : TypeId} {b m : Nat} {xs : List Lit} (h : SetOf w k b xs) (ht : Try.prog.underlying t = some (.map k 4)) (hk : ∀ x ∈ xs, WideAt.IsKeyLit x) (hm : Card xs m) (ty : TypeId) :
    (Builtin.len_ #[t] ty #[.map (some b)]).run Try.prog w = .ok (.int .i64 (m : Int)) w := by
  have := World.ownsMap.len h ht ty
  rw [(size_card (.lit (.bool true)) xs hk).uniq hm] at this
  exact this
theorem wpList_lenM {ops : Array Oper} {rest : List Oper} {o : Oper} {a : Act} {Q : Exit → Act → World → Prop} {k b m : Nat} {xs : List Lit} (hg : o.guard = none) (x : Operand) (t : TypeId) (hop : o.op = Op.call { callee := Callee.builtin Builtin.len, args := #[x], argTypes := #[t] })
    (ht : Try.prog.underlying t = some (.map k 4)) (hx : a.eval x = .map (some b)) (h : SetOf w k b xs) (hk : ∀ x ∈ xs, WideAt.IsKeyLit x) (hm : Card xs m) (hK : wpList Try.prog ops Q rest (a.put o.dst (.int .i64 (m : Int))) w) : wpList Try.prog ops Q (o :: rest) a w :=
  wpList_len_own w hg x t hop k 4 ht _ b xs.length _ hx h (by rw [(size_card (.lit (.bool true)) xs hk).uniq hm]; exact hK)
def contsL (l : Ln) (n : Nat) : List Lit := (List.range n).map fun k => contKey (wordsL l k)
theorem contsL_len (l : Ln) (n : Nat) : (contsL l n).length = n := by simp [contsL]
theorem contsL_succ (l : Ln) (n : Nat) : contsL l (n + 1) = contsL l n ++ [contKey (wordsL l n)] := by unfold contsL; rw [List.range_succ, List.map_append]; rfl
theorem contsL_key (l : Ln) (n : Nat) : ∀ x ∈ contsL l n, WideAt.IsKeyLit x := by
  intro x hx
  obtain ⟨k, _, rfl⟩ := List.mem_map.1 hx
  trivial
theorem contsL_card (l : Ln) (hw : ∀ k, ∀ x ∈ wordsL l k, x < 18446744073709551616) (h8 : ∀ k, (wordsL l k).length = 8) : Card (contsL l (l.hist.length + 1)) (cntL l) :=
  (cntL_card l).trade fun a _ b _ => ⟨fun h => by rw [h], fun h => contKey_inj (hw a) (hw b) (h8 a) (h8 b) h⟩
theorem prodC_take (R : Dv) (ds : List Nat) (k : Nat) (h : k < ds.length) : prodC R (ds.take (k + 1)) = prodC R (ds.take k) * cntL (R.line (ds.getD k 0)) := by
  rw [take_getD ds k 0 h, prodC_snoc]
theorem line_base (l : Ln) : wordsL l 0 = l.base := rfl
set_option maxHeartbeats 4000000 in
set_option maxRecDepth 100000 in
theorem distinct_any (h : DevSt w F o L T R) (lim : Int) (hlm : lim ≤ 1000000) : Calls Try.prog 34 #[.pointer (some ⟨L.g, 0, none⟩), .int .i64 lim] w fun e w' =>
    e = .returned (if lim < (prodL R (dirtyL R) : Int) then .tuple #[.int .i64 0, .int .i64 9] else .tuple #[.int .i64 ((prodC R (dirtyL R) : Nat) : Int), .int .i64 0]) ∧ Below w.heap.size w w' := by
  generalize hpost : (fun (e : Ending) w' => e = .returned (if lim < (prodL R (dirtyL R) : Int) then .tuple #[.int .i64 0, .int .i64 9] else .tuple #[.int .i64 ((prodC R (dirtyL R) : Nat) : Int), .int .i64 0]) ∧ Below w.heap.size w w') = post
  have hok := h.ok
  have hex := Lib.hid (examine_any h)
  have htot := Lib.hid (fun (wx : World) (pv lv hv : Value) (hs : SetSt wx R pv lv hv) => total_any hok hs)
  have hpp := prodL_pos R (dirtyL R)
  have hno : lim < (prodL R (dirtyL R) : Int) → ∀ w', Below w.heap.size w w' → post (.returned (.tuple #[.int .i64 0, .int .i64 9])) w' := fun hc w' hb => by rw [← hpost, if_pos hc]; exact ⟨rfl, hb⟩
  have hyes : ¬ lim < (prodL R (dirtyL R) : Int) → ∀ w', Below w.heap.size w w' → post (.returned (.tuple #[.int .i64 ((prodC R (dirtyL R) : Nat) : Int), .int .i64 0])) w' := fun hc w' hb => by rw [← hpost, if_neg hc]; exact ⟨rfl, hb⟩
  replace hpost := Lib.hid hpost
  clear h
  go_enter Try.func34, Try.ntmps34
  go_wp2_with fail
  refine hex.out.mono ?_
  rintro e w1 ⟨pv', lv', hv', rfl, hs, hB⟩
  obtain ⟨⟨pb, ep, _⟩, ⟨la, lc, el, _⟩, ⟨ha, hc, vs, eh, _⟩⟩ := id hs
  subst ep
  subst el
  subst eh
  generalize hpl : (bytesL R.perW).length = pl at *
  generalize hdl : (dirtyL R).length = dl at *
  replace hpl := Lib.hid hpl
  replace hdl := Lib.hid hdl
  have ht := htot.out
  unfold totV at ht
  obtain ⟨W1, hW1⟩ : ∃ W1, W1 = w1.alloc (.cells #[.slice (some ⟨pb, 0, none⟩) pl pl, .slice la dl lc, .slice ha dl hc] 102) := ⟨_, rfl⟩
  have hB1 : Below w1.heap.size w1 W1 := by rw [hW1]; exact (Below.refl _ _).alloc (Nat.le_refl _) _
  have hS1 : Has W1 w1.heap.size [.slice (some ⟨pb, 0, none⟩) pl pl, .slice la dl lc, .slice ha dl hc] 102 := by rw [hW1]; exact Has.new w1 [.slice (some ⟨pb, 0, none⟩) pl pl, .slice la dl lc, .slice ha dl hc] 102
  have hs1 := hs.kept hB1
  have hBw : Below w.heap.size w W1 := hB.trans (hB1.mono hB.size)
  have q0 := hS1.cell (o := 0) rfl
  have q1 := hS1.cell (o := 1) rfl
  have q2 := hS1.cell (o := 2) rfl
  have qA : (Instr.loadAt 102 (.pointer (some ⟨w1.heap.size, 0, none⟩))).run Try.prog W1 = .ok (.agg #[.slice (some ⟨pb, 0, none⟩) pl pl, .slice la dl lc, .slice ha dl hc]) W1 := by
    have h2 := run_loadCells_list (P := Try.prog) W1 ⟨w1.heap.size, 0, none⟩ [.slice (some ⟨pb, 0, none⟩) pl pl, .slice la dl lc, .slice ha dl hc] (fun j v hv => has_news hS1 j v hv)
    simp only [List.length_cons, List.length_nil] at h2
    simp only [Instr.loadAt, Instr.sureAddr, loadVar, Sem.run_bind, Sem.run_pure, Result.andThen_ok, Try.isAgg102, Try.sizeOf102, if_true, h2]
  generalize hP : prodL R (dirtyL R) = P at *
  have ht1 := ht W1 _ _ _ hs1
  replace hex := Lib.hid hex
  replace hW1 := Lib.hid hW1
  replace hBw := Lib.hid hBw
  replace hs1 := Lib.hid hs1
  replace hS1 := Lib.hid hS1
  replace hP := Lib.hid hP
  replace hyes := Lib.hid hyes
  clear htot ht hex hs hB hB1
  by_cases h1 : P < 18446744073709551616
  · rw [if_pos h1] at ht1
    by_cases h2 : P ≤ 4611686018427387904
    · have g1 : decide ((4611686018427387904 : Int) < (P : Int)) = false := decide_eq_false (by omega)
      have g2 : decide (4611686018427387904 < P) = false := decide_eq_false (by omega)
      by_cases h3 : lim < 0
      · have g3 : decide (lim < 0) = true := decide_eq_true h3
        have hno1 := hno (by omega)
        replace ht1 := Lib.hid ht1
        replace hno1 := Lib.hid hno1
        clear hno
        go_wp2_with fail
        rw [← hW1.out]
        refine ht1.out.mono ?_
        rintro e w2 ⟨rfl, hB2⟩
        go_wp2_with fail
        first | exact hno1.out _ (hBw.out.trans (hB2.mono hBw.out.size)) | (go_ret2; exact hno1.out _ (hBw.out.trans (hB2.mono hBw.out.size)))
      · have g3 : decide (lim < 0) = false := decide_eq_false h3
        have hu : IntKind.u64.wrap lim = lim := IntWalk.u64_in _ (by omega)
        by_cases h4 : lim < (P : Int)
        · have g4 : decide (lim < (P : Int)) = true := decide_eq_true h4
          have hno1 := hno h4
          replace ht1 := Lib.hid ht1
          replace hno1 := Lib.hid hno1
          clear hno
          go_wp2_with fail
          rw [← hW1.out]
          refine ht1.out.mono ?_
          rintro e w2 ⟨rfl, hB2⟩
          go_wp2_with fail
          first | exact hno1.out _ (hBw.out.trans (hB2.mono hBw.out.size)) | (go_ret2; exact hno1.out _ (hBw.out.trans (hB2.mono hBw.out.size)))
        · have g4 : decide (lim < (P : Int)) = false := decide_eq_false h4
          have hyes1 := hyes.out (by omega)
          replace hyes1 := Lib.hid hyes1
          replace ht1 := Lib.hid ht1
          clear hno hyes
          go_wp2_with fail
          rw [← hW1.out]
          refine ht1.out.mono ?_
          rintro e w2 ⟨rfl, hB2⟩
          have hBw2 := hBw.out.trans (hB2.mono hBw.out.size)
          have hsA : ∀ wx, Below w2.heap.size w2 wx → SetSt wx R (.slice (some ⟨pb, 0, none⟩) pl pl) (.slice la dl lc) (.slice ha dl hc) ∧ Has wx w1.heap.size [.slice (some ⟨pb, 0, none⟩) pl pl, .slice la dl lc, .slice ha dl hc] 102 := fun wx hb => ⟨(hs1.out.kept hB2).kept hb, (hS1.out.only (Only.of_below hB2) (Nat.not_le.2 hS1.out.lt)).only (Only.of_below hb) (Nat.not_le.2 (hS1.out.only (Only.of_below hB2) (Nat.not_le.2 hS1.out.lt)).lt)⟩
          have hfin : ∀ wx, Below w2.heap.size w2 wx → post (.returned (.tuple #[.int .i64 ((prodC R (dirtyL R) : Nat) : Int), .int .i64 0])) wx := fun wx hb => hyes1.out wx (hBw2.trans (hb.mono hBw2.size))
          have q0' := (hsA w2 (Below.refl _ _)).2.cell (o := 0) rfl
          have q1' := (hsA w2 (Below.refl _ _)).2.cell (o := 1) rfl
          have q2' := (hsA w2 (Below.refl _ _)).2.cell (o := 2) rfl
          have hn2 := hok.n2
          have hdl0 : (dirtyL R).length ≤ R.lines.length := dirtyTo_len R R.lines.length
          have hprod : ∀ j, j ≤ (dirtyL R).length → prodC R ((dirtyL R).take j) ≤ 1000000 := fun j hj => by
            have h6 := prodC_le R ((dirtyL R).take j)
            have h7 := prodL_mono R (dirtyL R) j
            rw [hP.out] at h7
            omega
          rw [hdl.out] at hdl0
          replace hsA := Lib.hid hsA
          replace hfin := Lib.hid hfin
          replace hprod := Lib.hid hprod
          clear hBw2 hyes1 hS1 hs1 hBw hpost q0 q1 q2 qA ht1 hB2
          go_wp2_with fail
          go_loopw [9, 44] (fun tv iv wr => ∃ j : Nat, j ≤ dl ∧ iv = .int .i64 (j : Int) ∧ tv = .int .i64 ((prodC R ((dirtyL R).take j) : Nat) : Int) ∧ Below w2.heap.size w2 wr) (fun _ iv _ => dl - (intOf iv).toNat)
          case atStart => exact ⟨0, Nat.zero_le _, rfl, rfl, Below.refl _ _⟩
          case round =>
            clear q0' q1' q2'
            obtain ⟨j, hj, rfl, rfl, hBr⟩ := hrel
            by_cases hlt : j < dl
            · have hkI : decide ((j : Int) < (dl : Int)) = true := decide_eq_true (by omega)
              have hkN : decide (j < dl) = true := decide_eq_true hlt
              have hk0 : (0 : Int) ≤ (j : Int) := by omega
              have hkl : (j : Int) < (dl : Int) := by omega
              obtain ⟨hSr, hHr⟩ := hsA.out wr hBr
              have s0 := hHr.cell (o := 0) rfl
              have s2 := hHr.cell (o := 2) rfl
              have hdj : (dirtyL R)[j]? = some ((dirtyL R).getD j 0) := get_of_lt 0 (by rw [hdl.out]; exact hlt)
              have hpt := prodC_take R (dirtyL R) j (by rw [hdl.out]; exact hlt)
              have hp1 := hprod.out j (by rw [hdl.out]; omega)
              have hp2 := hprod.out (j + 1) (by rw [hdl.out]; omega)
              obtain ⟨n, hn⟩ : ∃ n, n = (dirtyL R).getD j 0 := ⟨_, rfl⟩
              rw [← hn] at hdj hpt
              obtain ⟨_, hnl, hnh⟩ := dirty_at hdj
              have hLn := hok.ln n hnl
              obtain ⟨⟨pb', ep, hp⟩, ⟨la', lc', el, hl⟩, ⟨ha', hc', vs', eh, hH, hh⟩⟩ := id hSr
              obtain ⟨va, vc, hv1, hv2⟩ := hH.2 _ _ hdj
              have hvd := hv2.rd
              rw [hdl.out] at hl hh
              obtain ⟨bl, ol, cl, e1, fa⟩ := hl.cells (by omega)
              simp only [Value.slice.injEq, true_and] at e1
              obtain ⟨rfl, e1⟩ := e1
              replace e1 := Lib.hid e1
              obtain ⟨bh, oh, ch, e2, fb⟩ := hh.cells (by omega)
              simp only [Value.slice.injEq, true_and] at e2
              obtain ⟨rfl, e2⟩ := e2
              replace e2 := Lib.hid e2
              have ck : wr.cell? ⟨bl, ol + j, none⟩ = some (.int .i64 (n : Int)) := fa _ _ (nats_get _ _ _ hdj)
              have cq : wr.cell? ⟨bh, oh + j, none⟩ = some (.slice va (R.line n).hist.length vc) := fb _ _ hv1
              have hl1 : Calls Try.prog 78 #[.slice (some ⟨pb, 0, none⟩) pl pl, .int .i64 (n : Int)] wr fun e w' => e = .returned (aggW (R.line n).base) ∧ Below wr.heap.size wr w' := by
                have hpbl : (bytesL R.perW).length = R.lines.length * 64 := by rw [bytesL_len, hok.perLen]; omega
                simp only [Value.slice.injEq, Option.some.injEq, Addr.mk.injEq, and_true] at ep
                obtain ⟨rfl, _⟩ := ep
                have := line_any (w := wr) R.perW n R.lines.length (some ⟨pb, 0, none⟩) pl (by rw [hok.perLen]; omega) hnl (by omega) (by rw [← hpl.out]; omega) (by rw [← hpl.out]; omega) hok.per_lt (Rd.of_has hp _ _)
                rw [hpl.out, per_line hok hnl] at this; exact this
              have h8 : ∀ k, (wordsL (R.line n) k).length = 8 := fun k => by rw [wordsL_len]; exact hLn.b
              have hwl : ∀ k, ∀ x ∈ wordsL (R.line n) k, x < 18446744073709551616 := fun k => hLn.words k
              have hcard := contsL_card (R.line n) hwl h8
              have hhl := hLn.hl
              have hTT := hok.t
              have hcl := cntL_le (R.line n)
              have hwj := Lib.hid (show wrap64 ((j : Int) + 1) = (j : Int) + 1 by unfold wrap64; omega)
              have hwm : wrap64 (((prodC R ((dirtyL R).take j) : Nat) : Int) * ((cntL (R.line n) : Nat) : Int)) = ((prodC R ((dirtyL R).take (j + 1)) : Nat) : Int) := by
                rw [hpt, Int.natCast_mul]
                rw [hpt, ] at hp2
                have : (((prodC R ((dirtyL R).take j) * cntL (R.line n) : Nat)) : Int) ≤ 1000000 := by omega
                rw [Int.natCast_mul] at this
                have h0 : (0 : Int) ≤ ((prodC R ((dirtyL R).take j) : Nat) : Int) * ((cntL (R.line n) : Nat) : Int) := Int.mul_nonneg (by omega) (by omega)
                unfold wrap64; omega
              have hpv : ∀ p ∈ (R.line n).hist, p.1 < 18446744073709551616 ∧ p.2 < 18446744073709551616 := fun p h => ⟨by have := hLn.h p h; omega, (hLn.h p h).2.2⟩
              generalize prodC R ((dirtyL R).take j) = pj at *
              replace hwm := Lib.hid hwm
              generalize hln : R.line n = l at *
              replace hpt := Lib.hid hpt
              replace hp1 := Lib.hid hp1
              replace hp2 := Lib.hid hp2
              replace hl1 := Lib.hid hl1
              replace hcard := Lib.hid hcard
              replace hdj := Lib.hid hdj
              replace hn := Lib.hid hn
              replace hln := Lib.hid hln
              clear fa fb hv1 hv2 hSr hHr hh hl hH
              go_wp2_with fail
              refine hl1.out.mono ?_
              rintro e w3 ⟨rfl, hB3⟩
              obtain ⟨W3, hW3⟩ : ∃ W3, W3 = (w3.alloc (.cells (cellsW l.base).toArray 140)).alloc (.map #[] 0) := ⟨_, rfl⟩
              have hC3 : Has W3 w3.heap.size (cellsW l.base) 140 := by rw [hW3]; exact (Has.new w3 (cellsW l.base) 140).alloc _
              have hM3 : SetOf W3 140 (w3.heap.size + 1) [] := by
                have := SetOf.made (w3.alloc (.cells (cellsW l.base).toArray 140)) 140
                rw [World.size_alloc] at this
                rw [hW3]; exact this
              have hB30 : Below w3.heap.size w3 W3 := by rw [hW3]; exact ((Below.refl _ _).alloc (Nat.le_refl _) _).alloc (by simp) _
              obtain ⟨w4, hr4, hM4, hO4⟩ := hM3.put contKeyed Try.underlying142 (by simp) (keyOf_cont (hwl 0))
              have l3 := cont_load hC3
              have hC4 := hC3.only hO4 (by omega)
              have hB34 : Below w3.heap.size w3 w4 := hB30.trans (hO4.below (B := w3.heap.size) hB30.size (fun _ _ e => by omega))
              have hB4 : Below wr.heap.size wr w4 := hB3.trans (hB34.mono hB3.size)
              have hHr4 := (hsA.out w4 (hBr.trans (hB4.mono hBr.size))).2
              have s20 := hHr4.cell (o := 2) rfl
              have cq4 := (hB4.cell (World.block_lt_of_cell? _ _ cq)).trans cq
              have hvA : ∀ wx, Below w3.heap.size w3 wx → Rd wx (.slice va l.hist.length vc) l.hist.length (wcells l.hist) := fun wx hb => hvd.kept (hB3.trans (hb.mono hB3.size))
              have hls : ∀ wx, Below w3.heap.size w3 wx → Below w2.heap.size w2 wx := fun wx hb => hBr.trans ((hB3.trans (hb.mono hB3.size)).mono hBr.size)
              have hz4 : w3.heap.size + 1 < w4.heap.size := hM4.lt
              have h83 : SetOf w4 140 (w3.heap.size + 1) (contsL l 1) := hM4
              have hC40 : Has w4 w3.heap.size (cellsW (wordsL l 0)) 140 := hC4
              have hr5 : (Instr.mapUpdate 142 (.map (some (w3.heap.size + 1))) (aggW l.base) (.bool true)).run Try.prog ((w3.alloc (.cells (cellsW l.base).toArray 140)).alloc (.map #[] 0)) = .ok () w4 := by rw [← hW3]; exact hr4
              unfold aggW cellsW at hr5
              clear hr4 l3
              replace hW3 := Lib.hid hW3
              replace hC40 := Lib.hid hC40
              replace h83 := Lib.hid h83
              replace hB34 := Lib.hid hB34
              replace hvA := Lib.hid hvA
              replace hls := Lib.hid hls
              clear hB30 hC3 hM3 hM4 hO4 hC4 hB4 hHr4 hvd cq ck s0 s2 hl1
              unfold aggW
              have hmm := @run_makeMap Try.prog
              go_wp2_with fail
              clear hr5 hmm
              go_loopw [62] (fun iv wq => ∃ k : Nat, k ≤ l.hist.length ∧ iv = .int .i64 (k : Int) ∧ Has wq w3.heap.size (cellsW (wordsL l k)) 140 ∧ SetOf wq 140 (w3.heap.size + 1) (contsL l (k + 1)) ∧ Below w3.heap.size w3 wq) (fun iv _ => l.hist.length - (intOf iv).toNat)
              case atStart => exact ⟨0, Nat.zero_le _, rfl, hC40.out, h83.out, hB34.out⟩
              case round =>
                clear hC40 h83 cq4 s20
                obtain ⟨k, hk, rfl, hCk, hMk, hBk⟩ := hrel
                by_cases hlk : k < l.hist.length
                · have kkI : decide ((k : Int) < (l.hist.length : Int)) = true := decide_eq_true (by omega)
                  have kkN : decide (k < l.hist.length) = true := decide_eq_true hlk
                  have kk0 : (0 : Int) ≤ (k : Int) := by omega
                  have kkl : (k : Int) < (l.hist.length : Int) := by omega
                  have hat := get_of_lt ((0, 0) : Nat × Nat) hlk
                  obtain ⟨hp1', hp2'⟩ := hpv _ (List.mem_of_getElem? hat)
                  have hsu := wordsL_succ l k (0, 0) hlk
                  generalize l.hist.getD k (0, 0) = pp at *
                  obtain ⟨p1, p2⟩ := pp
                  simp only at hp1' hp2'
                  obtain ⟨bx, ox, cx, ea, fa⟩ := (hvA.out wr hBk).cells (by omega)
                  simp only [Value.slice.injEq, true_and] at ea
                  obtain ⟨rfl, hcap⟩ := ea
                  replace hcap := Lib.hid hcap
                  have c0 : wr.cell? ⟨bx, ox + k * 2, none⟩ = _ := fa _ _ (wcells_get l.hist k _ hat).1
                  have c1 : wr.cell? ⟨bx, ox + k * 2 + 1, none⟩ = _ := fa _ _ (wcells_get l.hist k _ hat).2
                  simp only at c0 c1
                  have gC := hCk.alloc (.cells #[.int .u64 (p1 : Int), .int .u64 (p2 : Int)] 144)
                  have gM := hMk.only (Only.of_below ((Below.refl wr.heap.size wr).alloc (Nat.le_refl _) (.cells #[.int .u64 (p1 : Int), .int .u64 (p2 : Int)] 144))) (Nat.not_le.2 hMk.lt)
                  have gB := hBk.alloc hBk.size (.cells #[.int .u64 (p1 : Int), .int .u64 (p2 : Int)] 144)
                  have hcap5 := capply_any w3.heap.size (wordsL l k) (h8 k) gC p1 p2 hp1'
                  have hwk := Lib.hid (show wrap64 ((k : Int) + 1) = (k : Int) + 1 by unfold wrap64; omega)
                  have hcs := contsL_succ l (k + 1)
                  have hcn := contsL_len l (k + 1)
                  replace gC := Lib.hid gC
                  replace gM := Lib.hid gM
                  replace gB := Lib.hid gB
                  replace hcap5 := Lib.hid hcap5
                  replace hsu := Lib.hid hsu
                  replace hat := Lib.hid hat
                  replace hcs := Lib.hid hcs
                  replace hcn := Lib.hid hcn
                  clear fa hCk hMk hBk
                  go_wp2_with fail
                  refine hcap5.out.mono ?_
                  rintro e w5 ⟨rfl, a5, o5⟩
                  rw [← hsu.out] at a5
                  have gM5 := gM.out.only o5 (by omega)
                  have gB5 := gB.out.trans (o5.below (B := w3.heap.size) gB.out.size (fun _ _ e => by omega))
                  obtain ⟨w6, hr6, hM6, hO6⟩ := gM5.put contKeyed Try.underlying142 (by rw [hcn.out]; omega) (keyOf_cont (hwl (k + 1)))
                  have l5 := cont_load a5
                  have a6 := a5.only hO6 (by omega)
                  have gB6 := gB5.trans (hO6.below (B := w3.heap.size) gB5.size (fun _ _ e => by omega))
                  obtain ⟨av, hav⟩ : ∃ av, av = aggW (wordsL l (k + 1)) := ⟨_, rfl⟩
                  rw [← hav] at l5 hr6
                  replace hav := Lib.hid hav
                  replace l5 := Lib.hid l5
                  replace hr6 := Lib.hid hr6
                  replace a6 := Lib.hid a6
                  replace gB6 := Lib.hid gB6
                  replace hM6 := Lib.hid hM6
                  clear a5 o5 gM5 gB5 hO6 gC gM gB hcap5 c0 c1
                  go_wp2_with (first | (refine wpList_loadA rfl (.tmp 12) 140 rfl _ l5.out ?_) | (refine wpList_updateM rfl (.tmp 68) (.tmp 69) _ 142 rfl hr6.out ?_))
                  exact ⟨⟨k + 1, by omega, rfl, a6.out, by rw [hcs.out]; exact hM6.out, gB6.out⟩, by simp [intOf]; omega⟩
                · obtain rfl : k = l.hist.length := by omega
                  have kkI : decide ((l.hist.length : Int) < (l.hist.length : Int)) = false := decide_eq_false (by omega)
                  have kkN : decide (l.hist.length < l.hist.length) = false := decide_eq_false (by omega)
                  go_wp2_with (refine wpList_lenM rfl (.tmp 72) 142 rfl Try.underlying142 rfl hMk (contsL_key _ _) hcard.out ?_)
                  exact ⟨⟨j + 1, by omega, by go_num, congrArg (Value.int .i64) hwm.out, hls.out _ hBk⟩, by simp [intOf]; omega⟩
            · obtain rfl : j = dl := by omega
              have hkI : decide ((j : Int) < (j : Int)) = false := decide_eq_false (by omega)
              have hkN : decide (j < j) = false := decide_eq_false (by omega)
              have hx := hfin.out wr hBr
              have e3 : (dirtyL R).take j = dirtyL R := by rw [← hdl.out]; exact List.take_length
              rw [e3]
              go_wp2_with fail
              first | exact hx | (go_ret2; exact hx)
    · have g1 : decide ((4611686018427387904 : Int) < (P : Int)) = true := decide_eq_true (by omega)
      have g2 : decide (4611686018427387904 < P) = true := decide_eq_true (by omega)
      have hno1 := hno (by omega)
      replace ht1 := Lib.hid ht1
      replace hno1 := Lib.hid hno1
      clear hno
      go_wp2_with fail
      rw [← hW1.out]
      refine ht1.out.mono ?_
      rintro e w2 ⟨rfl, hB2⟩
      go_wp2_with fail
      first | exact hno1.out _ (hBw.out.trans (hB2.mono hBw.out.size)) | (go_ret2; exact hno1.out _ (hBw.out.trans (hB2.mono hBw.out.size)))
  · rw [if_neg h1] at ht1
    have hno1 := hno (by omega)
    replace ht1 := Lib.hid ht1
    replace hno1 := Lib.hid hno1
    clear hno
    go_wp2_with fail
    rw [← hW1.out]
    refine ht1.out.mono ?_
    rintro e w2 ⟨rfl, hB2⟩
    go_wp2_with fail
    first | exact hno1.out _ (hBw.out.trans (hB2.mono hBw.out.size)) | (go_ret2; exact hno1.out _ (hBw.out.trans (hB2.mono hBw.out.size)))
end Go.Proofs.Ytikjpklbbjmioaa
