/- crashset: contents of lines: comparison, apply, prefix. -/
import Derived.Test.YtjmdibgncaljaaaK25
import Derived.Test.YtjmdibgncaljaaaE11
import Derived.DeepKeys
import Derived.Deep.WholeRow
import Derived.Deep.RegionLaw
namespace Go.Proofs.Ytjmdibgncaljaaa.Dev
open Go.RowKit Go.Maps
variable {w : World} {R : Dv} {T : Nat}
def litsW (a : List Nat) : List Lit := [.int .u64 ((wat a 0 : Nat) : Int), .int .u64 ((wat a 1 : Nat) : Int), .int .u64 ((wat a 2 : Nat) : Int), .int .u64 ((wat a 3 : Nat) : Int), .int .u64 ((wat a 4 : Nat) : Int), .int .u64 ((wat a 5 : Nat) : Int), .int .u64 ((wat a 6 : Nat) : Int), .int .u64 ((wat a 7 : Nat) : Int)]
theorem wat_lt {a : List Nat} (h : ∀ x ∈ a, x < 18446744073709551616) (j : Nat) : wat a j < 18446744073709551616 := by
  unfold wat
  by_cases hj : j < a.length
  · exact h _ (mem_getD 0 hj)
  · rw [List.getD, List.getElem?_eq_none (by omega)]; exact (by decide)
theorem kl1 {n : Nat} (h : n < 18446744073709551616) (d : Nat) : Try.prog.keyLits (d + 1) 27 [.int .u64 (n : Int)] = some [.int .u64 (n : Int)] := by
  have hw : (Lit.int IntKind.u64 (n : Int)).wf = true := by
    simp only [Lit.wf, Bool.and_eq_true, decide_eq_true_eq]
    have e1 : IntKind.min .u64 = 0 := by decide
    have e2 : IntKind.max .u64 = 18446744073709551615 := by decide
    rw [e1, e2]
    omega
  unfold Program.keyLits
  rw [Try.underlying27]
  simp [hw]
theorem cellsU64q : Try.prog.cellsOf 27 = 1 := by kernel_rfl
theorem cellsCont : Try.prog.cellsOf 186 = 8 := by kernel_rfl
theorem keyLits_cont {a : List Nat} (h : ∀ x ∈ a, x < 18446744073709551616) : Try.prog.keyLits 2 186 (aggW a).cells.toList = some (litsW a) := by
  have k := fun j => kl1 (wat_lt h j) 0
  unfold Program.keyLits
  have e : (aggW a).cells.toList = cellsW a := rfl
  rw [Try.underlying186, cellsCont, e]
  simp only [cellsU64q]
  have hr : List.range 8 = [0, 1, 2, 3, 4, 5, 6, 7] := rfl
  simp only [hr]
  simp only [Nat.zero_add] at k
  simp [List.mapM_cons, cellsW, k, litsW]
theorem litsW_inj {a b : List Nat} (ha : a.length = 8) (hb : b.length = 8) (h : litsW a = litsW b) : a = b := by
  unfold litsW at h
  simp only [List.cons.injEq, Lit.int.injEq, true_and, and_true] at h
  obtain ⟨h0, h1, h2, h3, h4, h5, h6, h7⟩ := h
  apply List.ext_getElem?
  intro i
  by_cases hi : i < 8
  · rw [get_of_lt 0 (by omega), get_of_lt 0 (by omega)]
    congr 1
    unfold wat at *
    match i, hi with
    | 0, _ | 1, _ | 2, _ | 3, _ | 4, _ | 5, _ | 6, _ | 7, _ => omega
  · rw [List.getElem?_eq_none (by omega), List.getElem?_eq_none (by omega)]
/-- Two contents are equal exactly if their words are. -/
theorem eql_cont {a b : List Nat} (ha : ∀ x ∈ a, x < 18446744073709551616) (hb : ∀ x ∈ b, x < 18446744073709551616) (la : a.length = 8) (lb : b.length = 8) (w : World) :
    (binOp .eql 186 (aggW a) (aggW b)).run Try.prog w = .ok (.bool (decide (a = b))) w := by
  have hk : Try.prog.keyTypeAt 2 186 = true := by kernel_rfl
  obtain ⟨r, h1, h2⟩ := run_equalIn_deep (P := Try.prog) 9998 2 186 hk w 2 2 (aggW a) (aggW b) (litsW a) (litsW b) (by kernel_rfl) (by kernel_rfl) (keyLits_cont ha) (keyLits_cont hb)
  have hr : r = decide (a = b) := by
    by_cases e : a = b
    · rw [decide_eq_true e, h2, e]
    · rw [decide_eq_false e]
      cases r
      · rfl
      · exact absurd (litsW_inj la lb (h2.1 rfl)) e
  rw [← hr]
  unfold aggW at h1 ⊢
  rw [run_eql_struct, h1]
  rfl
theorem guard_cont (a b : List Nat) (x y : Operand) (w : World) : (eqGuard .eql 186 x y (aggW a) (aggW b)).run Try.prog w = .ok () w := run_eqGuard_agg w .eql 186 x y _ _ (by kernel_rfl)
set_option maxHeartbeats 1000000 in
set_option maxRecDepth 100000 in
theorem capply_any (b : Nat) (ws : List Nat) (h8 : ws.length = 8) (hH : Has w b (cellsW ws) 186) (p1 p2 : Nat) (hp1 : p1 < 18446744073709551616) :
    Calls Try.prog 108 #[.pointer (some ⟨b, 0, none⟩), .agg #[.int .u64 (p1 : Int), .int .u64 (p2 : Int)]] w fun e w' => e = .returned (.tuple #[]) ∧ Has w' b (cellsW (setW ws (p1, p2))) 186 ∧ Only (fun k => k = b) w w' := by
  generalize hpost : (fun (e : Ending) w' => e = .returned (.tuple #[]) ∧ Has w' b (cellsW (setW ws (p1, p2))) 186 ∧ Only (fun k => k = b) w w') = post
  have hHb := hH.lt
  have hW := Has.new w [.int .u64 (p1 : Int), .int .u64 (p2 : Int)] 133
  have c0 := hW.cell (o := 0) rfl
  have c1 := hW.cell (o := 1) rfl
  have hA := hH.alloc (.cells #[.int .u64 (p1 : Int), .int .u64 (p2 : Int)] 133)
  obtain ⟨j, hjd⟩ : ∃ j, j = p1 % 64 / 8 := ⟨_, rfl⟩
  obtain ⟨m, hmd⟩ : ∃ m, m = p1 % 64 := ⟨_, rfl⟩
  have hj8 : j < 8 := by omega
  have co := hA.cell (cellsW_get _ _ hj8)
  have fo := hA.free j
  have hst := ((hH.set j (.int .u64 (p2 : Int))).alloc (.cells #[.int .u64 (p1 : Int), .int .u64 (p2 : Int)] 133)).drew
  rw [← cellsW_set _ h8 _ _ hj8] at hst
  have hset : ws.set j p2 = setW ws (p1, p2) := by rw [hjd]; rfl
  rw [hset] at hst
  have hO : Only (fun k => k = b) w ((w.setCell ⟨b, j, none⟩ (.int .u64 (p2 : Int))).alloc (.cells #[.int .u64 (p1 : Int), .int .u64 (p2 : Int)] 133)).drew := (((Only.refl (fun k => k = b) w).setCell (a := ⟨b, j, none⟩) (fun _ => rfl) _).alloc _).drew
  have hfin : post (.returned (.tuple #[])) ((w.setCell ⟨b, j, none⟩ (.int .u64 (p2 : Int))).alloc (.cells #[.int .u64 (p1 : Int), .int .u64 (p2 : Int)] 133)).drew := by
    rw [← hpost]; exact ⟨rfl, hst, hO⟩
  have hjI : (j : Int) < 8 := by omega
  have hj0 : (0 : Int) ≤ (j : Int) := by omega
  have hm64 : (m : Int) < 64 := by omega
  have hp1I : (p1 : Int) < 18446744073709551616 := by omega
  have hmI : (p1 : Int).tmod 64 = (m : Int) := by rw [Int.tmod_eq_emod_of_nonneg (by omega)]; omega
  have hjI2 : IntKind.u64.wrap ((m : Int) / 8) = (j : Int) := by rw [show (m : Int) / 8 = (j : Int) from by omega]; exact IntWalk.u64_in _ (by omega)
  replace hfin := Lib.hid hfin
  replace hpost := Lib.hid hpost
  replace hjd := Lib.hid hjd
  replace hmd := Lib.hid hmd
  replace hset := Lib.hid hset
  replace h8 := Lib.hid h8
  clear hst hO hW hA hH
  generalize wat ws j = old at *
  go_enter Try.func108, Try.ntmps108
  go_wp2_with fail
  refine region_tail 9 (by kernel_rfl) (by kernel_rfl) ?_
  simp only [List.take_succ_cons, List.take_zero, List.drop_succ_cons, List.drop_zero]
  repeat still_step
  refine wpStill_nil ?_
  clear hmI hjI2
  go_wp2_with fail
  exact bodyPost_end (results_none rfl _ _ _) rfl hfin.out
theorem setW_lt {ws : List Nat} (h : ∀ x ∈ ws, x < 18446744073709551616) (p : Nat × Nat) (hp : p.2 < 18446744073709551616) : ∀ x ∈ setW ws p, x < 18446744073709551616 := by
  intro x hx
  unfold setW at hx
  rcases List.mem_or_eq_of_mem_set hx with h1 | h1
  · exact h x h1
  · rw [h1]; exact hp
theorem wordsL_lt {l : Ln} (hb : ∀ x ∈ l.base, x < 18446744073709551616) (hp : ∀ p ∈ l.hist, p.2 < 18446744073709551616) (k : Nat) : ∀ x ∈ wordsL l k, x < 18446744073709551616 := by
  unfold wordsL
  have hq : ∀ p ∈ l.hist.take k, p.2 < 18446744073709551616 := fun p h => hp p (List.mem_of_mem_take h)
  generalize l.hist.take k = ps at *
  generalize l.base = ws at *
  induction ps generalizing ws with
  | nil => exact hb
  | cons p r ih =>
    rw [List.foldl_cons]
    exact ih (fun q h => hq q (List.mem_cons_of_mem _ h)) _ (setW_lt hb p (hq p (List.mem_cons_self ..)))
/-- A whole content, loaded. -/
theorem cont_load {b : Nat} {ws : List Nat} (hH : Has w b (cellsW ws) 186) : (Instr.loadAt 186 (.pointer (some ⟨b, 0, none⟩))).run Try.prog w = .ok (aggW ws) w := by
  have h2 := run_loadCells_list (P := Try.prog) w ⟨b, 0, none⟩ (cellsW ws) (fun j v hv => has_news hH j v hv)
  have h8 : (cellsW ws).length = 8 := rfl
  rw [h8] at h2
  simp only [Instr.loadAt, Instr.sureAddr, loadVar, Sem.run_bind, Sem.run_pure, Result.andThen_ok, Try.isAgg186, Try.sizeOf186, if_true, h2]
  rfl
/-- A load of a whole value as a step of the walk. -/
theorem wpList_loadA {P : Program} {w : World} {ops : Array Oper} {rest : List Oper} {o : Oper} {a : Act} {Q : Exit → Act → World → Prop} (hgd : o.guard = none) (x : Operand) (t : TypeId)
    (ho : o.op = .load t x) (v : Value) (hrun : (Instr.loadAt t (a.eval x)).run P w = .ok v w) (h : wpList P ops Q rest (a.put o.dst v) w) : wpList P ops Q (o :: rest) a w := by
  refine wpList_plain hgd fun K hK => ?_
  unfold Oper.wp execOp
  simp only [ho, Sem.run_bind, Sem.run_pure, Result.andThen_ok, hrun]
  exact hK _ _ h
set_option maxHeartbeats 2000000 in
set_option maxRecDepth 100000 in
theorem prefix_any5 (l : Ln) (tg : List Nat) (va : Option Addr) (vc : Nat) (hb : l.base.length = 8) (ht : tg.length = 8) (hbl : ∀ x ∈ l.base, x < 18446744073709551616) (htl : ∀ x ∈ tg, x < 18446744073709551616)
    (hl : l.hist.length ≤ 100000) (hr : Rd w (.slice va l.hist.length vc) l.hist.length (wcells l.hist)) (hp : ∀ p ∈ l.hist, p.1 < 18446744073709551616 ∧ p.2 < 18446744073709551616) :
    Calls Try.prog 95 #[aggW l.base, .slice va l.hist.length vc, aggW tg] w fun e w' => e = .returned (.int .i64 (leastI l tg)) ∧ Below w.heap.size w w' := by
  generalize hpost : (fun (e : Ending) w' => e = .returned (.int .i64 (leastI l tg)) ∧ Below w.heap.size w w') = post
  have hwl := wordsL_lt hbl (fun p h => (hp p h).2)
  have h8 : ∀ i, (wordsL l i).length = 8 := fun i => by rw [wordsL_len]; exact hb
  have hA1 := (Has.new w (cellsW l.base) 186).alloc (.cells (cellsW tg).toArray 186)
  have hA2 := Has.new (w.alloc (.cells (cellsW l.base).toArray 186)) (cellsW tg) 186
  simp only [World.size_alloc] at hA2
  have hB : Below w.heap.size w ((w.alloc (.cells (cellsW l.base).toArray 186)).alloc (.cells (cellsW tg).toArray 186)) := ((Below.refl _ _).alloc (Nat.le_refl _) _).alloc (by simp) _
  have hfin : ∀ (k : Nat) (w' : World), Below w.heap.size w w' → leastL l tg = some k → post (.returned (.int .i64 (k : Int))) w' := fun k w' h1 h2 => by
    rw [← hpost]; exact ⟨by rw [(leastI_some h2).1], h1⟩
  have hfin2 : ∀ (w' : World), Below w.heap.size w w' → leastL l tg = none → post (.returned (.int .i64 (-1))) w' := fun w' h1 h2 => by
    rw [← hpost]; exact ⟨by rw [leastI_none h2], h1⟩
  obtain ⟨W0, hW0⟩ : ∃ W0, W0 = (w.alloc (.cells (cellsW l.base).toArray 186)).alloc (.cells (cellsW tg).toArray 186) := ⟨_, rfl⟩
  rw [← hW0] at hA1 hA2 hB
  replace hA1 := Lib.hid hA1
  replace hA2 := Lib.hid hA2
  replace hB := Lib.hid hB
  replace hW0 := Lib.hid hW0
  replace hfin := Lib.hid hfin
  replace hfin2 := Lib.hid hfin2
  replace hpost := Lib.hid hpost
  replace h8 := Lib.hid h8
  replace hwl := Lib.hid hwl
  replace hb := Lib.hid hb
  replace ht := Lib.hid ht
  have hl0 : Value.agg (cellsW l.base).toArray = aggW l.base := rfl
  have hl1 : Value.agg (cellsW tg).toArray = aggW tg := rfl
  replace hl0 := Lib.hid hl0
  replace hl1 := Lib.hid hl1
  go_enter Try.func95, Try.ntmps95
  rw [← hl0.out, ← hl1.out]
  go_wp2_with fail
  go_loopw [11] (fun iv wr => ∃ k : Nat, k ≤ l.hist.length ∧ iv = .int .i64 (k : Int) ∧ Has wr w.heap.size (cellsW (wordsL l k)) 186 ∧ Has wr (w.heap.size + 1) (cellsW tg) 186 ∧ Below w.heap.size w wr ∧ ∀ j, j < k → wordsL l j ≠ tg) (fun iv _ => l.hist.length - (intOf iv).toNat)
  case atStart => rw [← hW0.out]; exact ⟨0, Nat.zero_le _, rfl, hA1.out, hA2.out, hB.out, fun j h => absurd h (Nat.not_lt_zero j)⟩
  case round =>
    clear hA1 hA2 hB
    obtain ⟨k, hk, rfl, h1, h2, hBr, hno⟩ := hrel
    by_cases hlt : k < l.hist.length
    · have hkI : decide ((k : Int) < (l.hist.length : Int)) = true := decide_eq_true (by omega)
      have hkN : decide (k < l.hist.length) = true := decide_eq_true hlt
      have hk0 : (0 : Int) ≤ (k : Int) := by omega
      have hkl : (k : Int) < (l.hist.length : Int) := by omega
      have hat := get_of_lt ((0, 0) : Nat × Nat) hlt
      obtain ⟨hp1, hp2⟩ := hp _ (List.mem_of_getElem? hat)
      have hsu := wordsL_succ l k (0, 0) hlt
      generalize l.hist.getD k (0, 0) = pp at *
      obtain ⟨p1, p2⟩ := pp
      simp only at hp1 hp2
      obtain ⟨bl, ol, cl, ea, fa⟩ := (hr.kept hBr).cells (by omega)
      simp only [Value.slice.injEq, true_and] at ea
      obtain ⟨rfl, hcap⟩ := ea
      replace hcap := Lib.hid hcap
      have c0 : wr.cell? ⟨bl, ol + k * 2, none⟩ = _ := fa _ _ (wcells_get l.hist k _ hat).1
      have c1 : wr.cell? ⟨bl, ol + k * 2 + 1, none⟩ = _ := fa _ _ (wcells_get l.hist k _ hat).2
      simp only at c0 c1
      have g1 := h1.alloc (.cells #[.int .u64 (p1 : Int), .int .u64 (p2 : Int)] 133)
      have g2 := h2.alloc (.cells #[.int .u64 (p1 : Int), .int .u64 (p2 : Int)] 133)
      have gB := hBr.alloc hBr.size (.cells #[.int .u64 (p1 : Int), .int .u64 (p2 : Int)] 133)
      have l1 := cont_load g1
      have l2 := cont_load g2
      have hcap5 := capply_any w.heap.size (wordsL l k) (h8.out k) g1 p1 p2 hp1
      have hq := eql_cont (hwl.out k) htl (h8.out k) ht.out
      have hqg := guard_cont (wordsL l k) tg
      have hwr := Lib.hid (show wrap64 ((k : Int) + 1) = (k : Int) + 1 by unfold wrap64; omega)
      have hkk := hfin.out k
      have hkq := least_some (l := l) hk hno
      replace l1 := Lib.hid l1
      replace l2 := Lib.hid l2
      replace hcap5 := Lib.hid hcap5
      replace hsu := Lib.hid hsu
      replace hat := Lib.hid hat
      replace gB := Lib.hid gB
      replace g2 := Lib.hid g2
      replace hno := Lib.hid hno
      replace hkk := Lib.hid hkk
      replace hkq := Lib.hid hkq
      clear fa h1 h2 hBr g1
      by_cases he : wordsL l k = tg
      · have hx := hkk.out _ gB.out (hkq.out he)
        rw [decide_eq_true he] at hq
        replace he := Lib.hid he
        replace hx := Lib.hid hx
        clear hkk hkq
        go_wp2_with (first | (refine wpList_loadA rfl (.tmp 3) 186 rfl _ l1.out ?_) | (refine wpList_loadA rfl (.tmp 5) 186 rfl _ l2.out ?_))
        exact hx.out
      · rw [decide_eq_false he] at hq
        replace he := Lib.hid he
        clear hkk hkq
        go_wp2_with (first | (refine wpList_loadA rfl (.tmp 3) 186 rfl _ l1.out ?_) | (refine wpList_loadA rfl (.tmp 5) 186 rfl _ l2.out ?_) | (refine hcap5.out.mono ?_; rintro e w3 ⟨rfl, a3, o3⟩))
        have e3 := o3.size
        simp only [World.size_alloc] at e3
        refine ⟨⟨k + 1, by omega, rfl, by rw [hsu.out]; exact a3, g2.out.only o3 (by omega), gB.out.trans (o3.below (B := w.heap.size) gB.out.size (fun _ _ e => by omega)), fun j hj => ?_⟩, by simp [intOf]; omega⟩
        by_cases e : j = k
        · rw [e]; exact he.out
        · exact hno.out j (by omega)
    · obtain rfl : k = l.hist.length := by omega
      have hkI : decide ((l.hist.length : Int) < (l.hist.length : Int)) = false := decide_eq_false (by omega)
      have hkN : decide (l.hist.length < l.hist.length) = false := decide_eq_false (by omega)
      have l1 := cont_load h1
      have l2 := cont_load h2
      have hq := eql_cont (hwl.out l.hist.length) htl (h8.out l.hist.length) ht.out
      have hqg := guard_cont (wordsL l l.hist.length) tg
      have hkk := hfin.out l.hist.length wr hBr
      have hk2 := hfin2.out wr hBr
      have hkq := least_some (l := l) hk hno
      have hkn := least_none (l := l) (ws := tg)
      replace l1 := Lib.hid l1
      replace l2 := Lib.hid l2
      replace hno := Lib.hid hno
      by_cases he : wordsL l l.hist.length = tg
      · have hx := hkk (hkq he)
        rw [decide_eq_true he] at hq
        replace he := Lib.hid he
        replace hx := Lib.hid hx
        clear hkk hkq hk2 hkn h1 h2
        go_wp2_with (first | (refine wpList_loadA rfl (.tmp 3) 186 rfl _ l1.out ?_) | (refine wpList_loadA rfl (.tmp 5) 186 rfl _ l2.out ?_))
        exact hx.out
      · have hx := hk2 (hkn (fun j hj => by
          by_cases e : j = l.hist.length
          · rw [e]; exact he
          · exact hno.out j (by omega)))
        rw [decide_eq_false he] at hq
        replace he := Lib.hid he
        replace hx := Lib.hid hx
        clear hkk hkq hk2 hkn h1 h2
        go_wp2_with (first | (refine wpList_loadA rfl (.tmp 3) 186 rfl _ l1.out ?_) | (refine wpList_loadA rfl (.tmp 5) 186 rfl _ l2.out ?_))
        exact hx.out
end Go.Proofs.Ytjmdibgncaljaaa.Dev
