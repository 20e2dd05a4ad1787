/- The walks of slices.Grow and slices.Concat, of columns; slices.Clone of no indexes. -/
import Derived.Test.YtpjbcadelmjmfaaGreatDoorR13
import Derived.Lib.AppendZeros
namespace Go.Proofs.YtpjbcadelmjmfaaGreatDoor
open Go.RowKit Go.Lib
set_option linter.unusedVariables false

def colZ : Value := .agg #[.string ByteArray.empty, .int .u8 0, .bool false, .int .i64 0, .int .u8 0, .bool false, .int .i64 0, .string ByteArray.empty, .bool false]
theorem wpList_appEq {P : Program} {w : World} {ops : Array Oper} {rest : List Oper} {o : Oper} {a : Act} {Q : Exit → Act → World → Prop} (hgd : o.guard = none) (s x : Operand) (t tn : TypeId)
    (ho : o.op = .call { callee := .builtin .append, args := #[s, x], argTypes := #[t, tn] }) (sv xv : Value) (hs : a.eval s = sv) (hx : a.eval x = xv) (v : Value) (w' : World)
    (hr : ∀ ty, (Builtin.append_ #[t, tn] ty #[sv, xv]).run P w = .ok v w') (h : wpList P ops Q rest (a.put o.dst v) w') : wpList P ops Q (o :: rest) a w := by
  refine wpList_plain hgd fun K hK => ?_
  unfold Oper.wp execOp
  simp only [ho, resolve, invoke, builtin, Sem.run_bind, Sem.run_pure, Result.andThen_ok, List.map_toArray, List.map_cons, List.map_nil, hs, hx, hr]
  exact hK _ _ h
set_option maxHeartbeats 2000000 in
set_option maxRecDepth 100000 in
theorem grow_any (n : Nat) (h0 : 0 < n) (h100 : n ≤ 100) (w : World) :
    Calls Tryz.prog 82 #[.slice none 0 0, .int .i64 (n : Int)] w (fun e w' => ∃ c, e = .returned (.slice (some ⟨w.heap.size, 0, none⟩) 0 c) ∧ RowB w 78 9 0 [] (some ⟨w.heap.size, 0, none⟩) c w') := by
  obtain ⟨i, hi, hz, hsz, hby⟩ := info_parts infoColB
  have hap := fun ty (wx : World) => run_append_nil_zeros (P := Tryz.prog) wx 27 3 ty 78 i _ .i64 .i64 Tryz.underlying27 Tryz.underlying3 hi hz n h0 (by omega) (by omega) (by rw [hby]; omega)
  have hap0 := fun ty => hap ty w
  clear hap
  obtain ⟨G, hG⟩ : ∃ G, G = grownCap w n 0 78 := ⟨_, rfl⟩
  have hG1 : n ≤ G := by rw [hG]; exact grownCap_ge w n 0 78
  have hG2 : G ≤ maxLen := by rw [hG]; exact grownCap_le_maxLen w n 0 78 (by unfold maxLen; omega)
  rw [← hG] at hap0
  obtain ⟨X, hX⟩ : ∃ X, X = Builtin.zeroCells colZ.cells n ++ Builtin.zeroCells colZ.cells (G - n) := ⟨_, rfl⟩
  have hXs : X.size = G * 9 := by
    rw [hX, Array.size_append, size_zeroCells, size_zeroCells]
    have : colZ.cells.size = 9 := rfl
    rw [this, ← Nat.add_mul]
    congr 1
    omega
  have hap1 : ∀ ty, (Builtin.append_ #[27, 3] ty #[.slice none 0 0, .int .i64 (n : Int)]).run Tryz.prog w = .ok (.slice (some ⟨w.heap.size, 0, none⟩) n G) (w.drew.alloc (.cells X 78)) := by
    intro ty
    rw [hX]
    exact hap0 ty
  have hfin : (∃ c, Ending.returned (Value.slice (some ⟨w.heap.size, 0, none⟩) 0 G) = .returned (.slice (some ⟨w.heap.size, 0, none⟩) 0 c) ∧ RowB w 78 9 0 [] (some ⟨w.heap.size, 0, none⟩) c (w.drew.alloc (.cells X 78))) := by
    refine ⟨G, rfl, ⟨rfl, .inr ⟨w.heap.size, G, X, rfl, Nat.zero_le _, heap_alloc_new, Nat.zero_le _, hG2, hXs, ?_⟩⟩, fun k hk => ?_, ((Below.refl _ _).drew).alloc (Nat.le_refl _) _⟩
    · simp
    · simp only [Value.ownBlock, Option.some.injEq] at hk
      omega
  have hnI : decide ((n : Int) < 0) = false := decide_eq_false (by omega)
  have hnJ : decide ((n : Int) > 0) = true := decide_eq_true (by omega)
  have hnK : decide ((0 : Int) < (n : Int)) = true := decide_eq_true (by omega)
  have hnL : decide (0 < n) = true := decide_eq_true (by omega)
  generalize hpost : (fun (e : Ending) (w' : World) => ∃ c, e = .returned (.slice (some ⟨w.heap.size, 0, none⟩) 0 c) ∧ RowB w 78 9 0 [] (some ⟨w.heap.size, 0, none⟩) c w') = post
  have hfin2 : post (.returned (.slice (some ⟨w.heap.size, 0, none⟩) 0 G)) (w.drew.alloc (.cells X 78)) := by rw [← hpost]; exact hfin
  replace hpost := Lib.hid hpost
  replace hfin2 := Lib.hid hfin2
  replace hX := Lib.hid hX
  replace hXs := Lib.hid hXs
  replace hG := Lib.hid hG
  replace hi := Lib.hid hi
  replace hz := Lib.hid hz
  clear hfin hap0 hG2
  go_enter Tryz.func82, Tryz.ntmps82
  replace hap1 := Lib.hid hap1
  go_wp2_with (at_builtin; refine wpList_appEq rfl (.tmp 20) (.tmp 21) 27 3 rfl (.slice none 0 0) (.int .i64 (n : Int)) rfl rfl _ _ hap1.out ?_)
  go_wp2_with fail
  first | exact hfin2.out | (go_ret; exact hfin2.out)
theorem cC_app (a b : List CV) : cCells (a ++ b) = cCells a ++ cCells b := by simp [cCells]
theorem col_one (l : List CV) : ∀ u ∈ cCells l, u.oneCell' = true := by
  intro u hu
  unfold cCells at hu
  obtain ⟨c, _, hc⟩ := List.mem_flatMap.1 hu
  unfold CV.cells at hc
  simp only [List.mem_cons, List.not_mem_nil, or_false] at hc
  rcases hc with rfl | rfl | rfl | rfl | rfl | rfl | rfl | rfl | rfl <;> rfl
def sum2 (m1 m2 k : Nat) : Nat := if k = 0 then 0 else if k = 1 then m1 else m1 + m2
def cat2 (a b : List CV) (k : Nat) : List CV := if k = 0 then [] else if k = 1 then a else a ++ b
set_option maxHeartbeats 4000000 in
set_option maxRecDepth 100000 in
theorem concat_any (x1 x2 : List CV) (h10 : 0 < x1.length) (h20 : 0 < x2.length) (hl : x1.length + x2.length ≤ 100) (a1 a2 : Option Addr) (c1 c2 : Nat) (b : Nat) (w : World) (T : TypeId)
    (hB : Has w b [.slice a1 x1.length c1, .slice a2 x2.length c2] T) (h1 : Rd w (.slice a1 x1.length c1) x1.length (cCells x1)) (h2 : Rd w (.slice a2 x2.length c2) x2.length (cCells x2)) :
    Calls Tryz.prog 60 #[.slice (some ⟨b, 0, none⟩) 2 2] w (RowPost w 78 9 (x1 ++ x2).length (cCells (x1 ++ x2))) := by
  generalize hpost : RowPost w 78 9 (x1 ++ x2).length (cCells (x1 ++ x2)) = post
  replace hpost := Lib.hid hpost
  obtain ⟨m1, hm1⟩ : ∃ m, m = x1.length := ⟨_, rfl⟩
  obtain ⟨m2, hm2⟩ : ∃ m, m = x2.length := ⟨_, rfl⟩
  have hfin : ∀ sa sc w', RowB w 78 9 (m1 + m2) (cCells (x1 ++ x2)) sa sc w' → post (.returned (.slice sa (m1 + m2) sc)) w' := by
    intro sa sc w' h
    rw [← hpost.out]
    have e : (x1 ++ x2).length = m1 + m2 := by rw [List.length_append, hm1, hm2]
    rw [e]
    exact ⟨sa, sc, rfl, h⟩
  have gr := fun w' => grow_any (m1 + m2) (by omega) (by omega) w'
  have h1' := h1
  have h2' := h2
  rw [← hm1] at hB h1' h10 hl
  rw [← hm2] at hB h2' h20 hl
  have e0 := hB.cell (o := 0) rfl
  have e1 := hB.cell (o := 1) rfl
  have kB := fun w' (hb : Below w.heap.size w w') => hB.only (Only.of_below hb) (Nat.not_le.2 hB.lt)
  replace gr := Lib.hid gr
  replace hfin := Lib.hid hfin
  replace hm1 := Lib.hid hm1
  replace hm2 := Lib.hid hm2
  replace kB := Lib.hid kB
  clear hB
  go_enter Tryz.func60, Tryz.ntmps60
  go_wp2_with fail
  go_loopw [3, 11] (fun s i wr => ∃ k : Nat, k ≤ 2 ∧ i = .int .i64 k ∧ s = .int .i64 (sum2 m1 m2 k : Nat) ∧ wr = w) (fun _ i _ => 2 - (RowKit.intOf i).toNat)
  case atStart => exact ⟨0, by omega, rfl, rfl, rfl⟩
  case round =>
    obtain ⟨k, hk, rfl, rfl, hwr⟩ := hrel
    have hwr' := hwr.symm
    subst hwr'
    clear hwr
    rcases (show k = 0 ∨ k = 1 ∨ k = 2 by omega) with rfl | rfl | rfl
    · have z0 : sum2 m1 m2 0 = 0 := rfl
      have z1 : sum2 m1 m2 1 = m1 := rfl
      rw [z0]
      replace z0 := Lib.hid z0
      replace z1 := Lib.hid z1
      have d1 : decide ((m1 : Int) < 0) = false := decide_eq_false (by omega)
      go_wp2_with fail
      go_roundw
      case rel => exact ⟨1, by omega, by go_num, by rw [z1.out], trivial⟩
      case measure => simp [RowKit.intOf]
    · have z1 : sum2 m1 m2 1 = m1 := rfl
      have z2 : sum2 m1 m2 2 = m1 + m2 := rfl
      rw [z1]
      replace z1 := Lib.hid z1
      replace z2 := Lib.hid z2
      have d1 : decide ((m1 : Int) + (m2 : Int) < 0) = false := decide_eq_false (by omega)
      go_wp2_with fail
      go_roundw
      case rel => exact ⟨2, by omega, by go_num, by rw [z2.out]; go_num, trivial⟩
      case measure => simp [RowKit.intOf]
    · have z2 : sum2 m1 m2 2 = m1 + m2 := rfl
      rw [z2]
      replace z2 := Lib.hid z2
      clear hk e0 e1
      go_wp2_with fail
      refine (gr.out _).mono ?_
      rintro e w5 ⟨c, rfl, hR0⟩
      replace hR0 := Lib.hid hR0
      go_wp2_with fail
      go_loopw [6, 27] (fun s i wx => ∃ (k : Nat) (sa : Option Addr) (sc : Nat), k ≤ 2 ∧ i = .int .i64 k ∧ s = .slice sa (sum2 m1 m2 k) sc ∧ RowB w 78 9 (sum2 m1 m2 k) (cCells (cat2 x1 x2 k)) sa sc wx) (fun _ i _ => 2 - (RowKit.intOf i).toNat)
      case atStart => exact ⟨0, _, _, by omega, rfl, rfl, hR0.out⟩
      case round =>
        clear hR0
        obtain ⟨k, sa, sc, hk, rfl, rfl, hR⟩ := hrel
        rcases (show k = 0 ∨ k = 1 ∨ k = 2 by omega) with rfl | rfl | rfl
        · have z0 : sum2 m1 m2 0 = 0 := rfl
          have z1 : sum2 m1 m2 1 = m1 := rfl
          have y0 : cat2 x1 x2 0 = [] := rfl
          have y1 : cat2 x1 x2 1 = x1 := rfl
          rw [z0, y0] at hR
          rw [z0]
          have hbk := hR.b
          have hBk := kB.out _ hbk
          have e0 := hBk.cell (o := 0) rfl
          have e1 := hBk.cell (o := 1) rfl
          obtain ⟨bl, ol, cl, ea, fa⟩ := (h1'.kept hbk).cells (by omega)
          simp only [Value.slice.injEq, true_and] at ea
          obtain ⟨rfl, hcap⟩ := ea
          replace hcap := Lib.hid hcap
          have hnews : ∀ j u, (cCells x1)[j]? = some u → wr.cell? ((⟨bl, ol, none⟩ : Addr).add j) = some u := by
            intro j u hj
            have e : (⟨bl, ol, none⟩ : Addr).add j = ⟨bl, ol + j, none⟩ := by unfold Addr.add; split <;> simp_all
            rw [e]
            exact fa j u hj
          have hnl : (cCells x1).length = m1 * 9 := by rw [hm1.out]; exact cc_len x1
          have hno := col_one x1
          have ho := hR.o
          obtain ⟨xs, hxs⟩ : ∃ xs, xs = cCells x1 := ⟨_, rfl⟩
          rw [← hxs] at hnews hnl hno
          have hby : (0 + m1) * 72 ≤ 140737488355328 := by omega
          replace hxs := Lib.hid hxs
          replace z0 := Lib.hid z0
          replace z1 := Lib.hid z1
          replace y0 := Lib.hid y0
          replace y1 := Lib.hid y1
          replace hR := Lib.hid hR
          clear fa hBk hbk
          go_wp2_with (at_builtin; refine wpList_app rfl (.tmp 31) (.tmp 32) 27 rfl 78 colZ 9 72 Tryz.underlying27 infoColB rfl (by decide) (by decide) sa 0 sc (cCells []) (by exact ho) rfl ⟨bl, ol, none⟩ m1 c1 xs rfl hnl hnews hno (by exact hby) ?_)
          intro sa' sc' w6 own6 only6 fresh6
          have hR6 := hR.out.app (m := m1) (ys := xs) own6 only6 fresh6
          have hS6 : RowB w 78 9 (sum2 m1 m2 1) (cCells (cat2 x1 x2 1)) sa' sc' w6 := by
            rw [z1.out, y1.out, ← hxs.out]
            simpa [cCells] using hR6
          replace hS6 := Lib.hid hS6
          clear hR6 own6 only6 fresh6 ho hnews hnl hno hR e0 e1
          go_wp2_with fail
          go_roundw
          case rel => exact ⟨1, sa', sc', by omega, by go_num, by rw [z1.out], hS6.out⟩
          case measure => simp [RowKit.intOf]
        · have z1 : sum2 m1 m2 1 = m1 := rfl
          have z2 : sum2 m1 m2 2 = m1 + m2 := rfl
          have y1 : cat2 x1 x2 1 = x1 := rfl
          have y2 : cat2 x1 x2 2 = x1 ++ x2 := rfl
          rw [z1, y1] at hR
          rw [z1]
          have hbk := hR.b
          have hBk := kB.out _ hbk
          have e0 := hBk.cell (o := 0) rfl
          have e1 := hBk.cell (o := 1) rfl
          obtain ⟨bl, ol, cl, ea, fa⟩ := (h2'.kept hbk).cells (by omega)
          simp only [Value.slice.injEq, true_and] at ea
          obtain ⟨rfl, hcap⟩ := ea
          replace hcap := Lib.hid hcap
          have hnews : ∀ j u, (cCells x2)[j]? = some u → wr.cell? ((⟨bl, ol, none⟩ : Addr).add j) = some u := by
            intro j u hj
            have e : (⟨bl, ol, none⟩ : Addr).add j = ⟨bl, ol + j, none⟩ := by unfold Addr.add; split <;> simp_all
            rw [e]
            exact fa j u hj
          have hnl : (cCells x2).length = m2 * 9 := by rw [hm2.out]; exact cc_len x2
          have hno := col_one x2
          have ho := hR.o
          obtain ⟨xs, hxs⟩ : ∃ xs, xs = cCells x2 := ⟨_, rfl⟩
          rw [← hxs] at hnews hnl hno
          have hby : (m1 + m2) * 72 ≤ 140737488355328 := by omega
          replace hxs := Lib.hid hxs
          replace z1 := Lib.hid z1
          replace z2 := Lib.hid z2
          replace y1 := Lib.hid y1
          replace y2 := Lib.hid y2
          replace hR := Lib.hid hR
          clear fa hBk hbk
          go_wp2_with (at_builtin; refine wpList_app rfl (.tmp 31) (.tmp 32) 27 rfl 78 colZ 9 72 Tryz.underlying27 infoColB rfl (by decide) (by decide) sa m1 sc (cCells x1) (by exact ho) rfl ⟨bl, ol, none⟩ m2 c2 xs rfl hnl hnews hno (by exact hby) ?_)
          intro sa' sc' w6 own6 only6 fresh6
          have hR6 := hR.out.app (m := m1 + m2) (ys := xs) own6 only6 fresh6
          have hS6 : RowB w 78 9 (sum2 m1 m2 2) (cCells (cat2 x1 x2 2)) sa' sc' w6 := by
            rw [z2.out, y2.out, cC_app, ← hxs.out]
            exact hR6
          replace hS6 := Lib.hid hS6
          clear hR6 own6 only6 fresh6 ho hnews hnl hno hR e0 e1
          go_wp2_with fail
          go_roundw
          case rel => exact ⟨2, sa', sc', by omega, by go_num, by rw [z2.out], hS6.out⟩
          case measure => simp [RowKit.intOf]
        · have z2 : sum2 m1 m2 2 = m1 + m2 := rfl
          have y2 : cat2 x1 x2 2 = x1 ++ x2 := rfl
          rw [z2, y2] at hR
          rw [z2]
          have hf := hfin.out sa sc wr hR
          replace hf := Lib.hid hf
          replace z2 := Lib.hid z2
          replace y2 := Lib.hid y2
          clear hR hk
          go_wp2_with fail
          first | exact hf.out | (go_ret; exact hf.out)
end Go.Proofs.YtpjbcadelmjmfaaGreatDoor
