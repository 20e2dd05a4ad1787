/- Walks: slices.Grow and slices.Concat of programs, Then. -/
import Derived.Test.YtjmdibgncaljaaaUG
import Derived.Lib.AppendZeros
namespace Go.Proofs.Ytjmdibgncaljaaa
open Go.RowKit Go.Lib Dev
/-- A row that the call builds: what it holds; its block is new; nothing that there was has changed. -/
structure RowB (w : World) (T : TypeId) (size n : Nat) (xs : List Value) (sa : Option Addr) (sc : Nat) (wr : World) : Prop where
  o : wr.ownsRow 0 T size (.slice sa n sc) n xs
  ob : ∀ k, Value.ownBlock (.slice sa n sc) = some k → w.heap.size ≤ k
  b : Below w.heap.size w wr
theorem RowB.nil (w : World) (T : TypeId) (size : Nat) : RowB w T size 0 [] none 0 w := ⟨World.ownsRow_nil _ _ _ _, (fun k hk => by cases hk), Below.refl _ _⟩
theorem RowB.nil' {w wr : World} (hb : Below w.heap.size w wr) (T : TypeId) (size : Nat) : RowB w T size 0 [] none 0 wr := ⟨World.ownsRow_nil _ _ _ _, (fun k hk => by cases hk), hb⟩
theorem RowB.below {w wr wr2 : World} {T : TypeId} {size n : Nat} {xs : List Value} {sa : Option Addr} {sc : Nat} (h : RowB w T size n xs sa sc wr) (hb : Below wr.heap.size wr wr2) : RowB w T size n xs sa sc wr2 :=
  ⟨ownsRow_only h.o (Only.of_below hb) (fun k hk e => by have := ownsRow_lt h.o hk; omega), h.ob, h.b.trans (hb.mono h.b.size)⟩
theorem RowB.alloc {w wr : World} {T : TypeId} {size n : Nat} {xs : List Value} {sa : Option Addr} {sc : Nat} (h : RowB w T size n xs sa sc wr) (o : Obj) : RowB w T size n xs sa sc (wr.alloc o) :=
  h.below ((Below.refl _ _).alloc (Nat.le_refl _) _)
theorem RowB.app {w w1 w2 : World} {T : TypeId} {size n m : Nat} {xs ys : List Value} {sa sa' : Option Addr} {sc sc' : Nat} (h : RowB w T size n xs sa sc w1)
    (own : w2.ownsRow 0 T size (.slice sa' m sc') m (xs ++ ys)) (only : Only (fun k => Value.ownBlock (.slice sa n sc) = some k) w1 w2)
    (fresh : ∀ k, Value.ownBlock (.slice sa' m sc') = some k → Value.ownBlock (.slice sa n sc) = some k ∨ w1.heap.size ≤ k) : RowB w T size m (xs ++ ys) sa' sc' w2 := by
  have hs := h.b.size
  refine ⟨own, fun k hk => ?_, h.b.trans (only.below (B := w.heap.size) hs (fun k _ e => h.ob k e))⟩
  rcases fresh k hk with h1 | h1
  · exact h.ob k h1
  · omega
theorem RowB.rd {w wr : World} {T : TypeId} {size n : Nat} {xs : List Value} {sa : Option Addr} {sc : Nat} (h : RowB w T size n xs sa sc wr) : Rd wr (.slice sa n sc) n xs := Rd.of_own h.o
/-- The call gives a new row with these cells. -/
def RowPost (w : World) (T : TypeId) (size n : Nat) (xs : List Value) (e : Ending) (w' : World) : Prop := ∃ sa sc, e = .returned (.slice sa n sc) ∧ RowB w T size n xs sa sc w'

def inZ : Value := .agg #[.int .u8 0, .int .u64 0, .int .u64 0]
theorem wpList_appEq {P : Program} {w : World} {ops : Array Oper} {rest : List Oper} {o : Oper} {a : Act} {Q : Exit → Act → World → Prop} (hgd : o.guard = none) (s x : Operand) (t tn : TypeId)
    (ho : o.op = .call { callee := .builtin .append, args := #[s, x], argTypes := #[t, tn] }) (sv xv : Value) (hs : a.eval s = sv) (hx : a.eval x = xv) (v : Value) (w' : World)
    (hr : ∀ ty, (Builtin.append_ #[t, tn] ty #[sv, xv]).run P w = .ok v w') (h : wpList P ops Q rest (a.put o.dst v) w') : wpList P ops Q (o :: rest) a w := by
  refine wpList_plain hgd fun K hK => ?_
  unfold Oper.wp execOp
  simp only [ho, resolve, invoke, builtin, Sem.run_bind, Sem.run_pure, Result.andThen_ok, List.map_toArray, List.map_cons, List.map_nil, hs, hx, hr]
  exact hK _ _ h
set_option maxHeartbeats 2000000 in
set_option maxRecDepth 100000 in
theorem grow_any (n : Nat) (h0 : 0 < n) (h100 : n ≤ 100) (w : World) :
    Calls Try.prog 111 #[.slice none 0 0, .int .i64 (n : Int)] w (fun e w' => ∃ c, e = .returned (.slice (some ⟨w.heap.size, 0, none⟩) 0 c) ∧ RowB w 85 3 0 [] (some ⟨w.heap.size, 0, none⟩) c w') := by
  obtain ⟨i, hi, hz, hsz, hby⟩ := info_parts infoIn
  have hap := fun ty (wx : World) => run_append_nil_zeros (P := Try.prog) wx 79 3 ty 85 i _ .i64 .i64 Try.underlying79 Try.underlying3 hi hz n h0 (by omega) (by omega) (by rw [hby]; omega)
  have hap0 := fun ty => hap ty w
  clear hap
  obtain ⟨G, hG⟩ : ∃ G, G = grownCap w n 0 85 := ⟨_, rfl⟩
  have hG1 : n ≤ G := by rw [hG]; exact grownCap_ge w n 0 85
  have hG2 : G ≤ maxLen := by rw [hG]; exact grownCap_le_maxLen w n 0 85 (by unfold maxLen; omega)
  rw [← hG] at hap0
  obtain ⟨X, hX⟩ : ∃ X, X = Builtin.zeroCells inZ.cells n ++ Builtin.zeroCells inZ.cells (G - n) := ⟨_, rfl⟩
  have hXs : X.size = G * 3 := by
    rw [hX, Array.size_append, size_zeroCells, size_zeroCells]
    have : inZ.cells.size = 3 := rfl
    rw [this, ← Nat.add_mul]
    congr 1
    omega
  have hap1 : ∀ ty, (Builtin.append_ #[79, 3] ty #[.slice none 0 0, .int .i64 (n : Int)]).run Try.prog w = .ok (.slice (some ⟨w.heap.size, 0, none⟩) n G) (w.drew.alloc (.cells X 85)) := by
    intro ty
    rw [hX]
    exact hap0 ty
  have hfin : (∃ c, Ending.returned (Value.slice (some ⟨w.heap.size, 0, none⟩) 0 G) = .returned (.slice (some ⟨w.heap.size, 0, none⟩) 0 c) ∧ RowB w 85 3 0 [] (some ⟨w.heap.size, 0, none⟩) c (w.drew.alloc (.cells X 85))) := by
    refine ⟨G, rfl, ⟨rfl, .inr ⟨w.heap.size, G, X, rfl, Nat.zero_le _, heap_alloc_new, Nat.zero_le _, hG2, hXs, ?_⟩⟩, fun k hk => ?_, ((Below.refl _ _).drew).alloc (Nat.le_refl _) _⟩
    · simp
    · simp only [Value.ownBlock, Option.some.injEq] at hk
      omega
  have hnI : decide ((n : Int) < 0) = false := decide_eq_false (by omega)
  have hnJ : decide ((n : Int) > 0) = true := decide_eq_true (by omega)
  have hnK : decide ((0 : Int) < (n : Int)) = true := decide_eq_true (by omega)
  have hnL : decide (0 < n) = true := decide_eq_true (by omega)
  generalize hpost : (fun (e : Ending) (w' : World) => ∃ c, e = .returned (.slice (some ⟨w.heap.size, 0, none⟩) 0 c) ∧ RowB w 85 3 0 [] (some ⟨w.heap.size, 0, none⟩) c w') = post
  have hfin2 : post (.returned (.slice (some ⟨w.heap.size, 0, none⟩) 0 G)) (w.drew.alloc (.cells X 85)) := by rw [← hpost]; exact hfin
  replace hpost := Lib.hid hpost
  replace hfin2 := Lib.hid hfin2
  replace hX := Lib.hid hX
  replace hXs := Lib.hid hXs
  replace hG := Lib.hid hG
  replace hi := Lib.hid hi
  replace hz := Lib.hid hz
  clear hfin hap0 hG2
  go_enter Try.func111, Try.ntmps111
  replace hap1 := Lib.hid hap1
  go_wp2_with (at_builtin; refine wpList_appEq rfl (.tmp 20) (.tmp 21) 79 3 rfl (.slice none 0 0) (.int .i64 (n : Int)) rfl rfl _ _ hap1.out ?_)
  go_wp2_with fail
  first | exact hfin2.out | (go_ret; exact hfin2.out)
theorem inC_app (a b : List In) : inCells (a ++ b) = inCells a ++ inCells b := by simp [inCells]
theorem in_one (l : List In) : ∀ u ∈ inCells l, u.oneCell' = true := by
  intro u hu
  unfold inCells at hu
  obtain ⟨c, _, hc⟩ := List.mem_flatMap.1 hu
  unfold In.cells at hc
  simp only [List.mem_cons, List.not_mem_nil, or_false] at hc
  rcases hc with rfl | rfl | rfl <;> rfl
def sum2 (m1 m2 k : Nat) : Nat := if k = 0 then 0 else if k = 1 then m1 else m1 + m2
def cat2 (a b : List In) (k : Nat) : List In := if k = 0 then [] else if k = 1 then a else a ++ b
set_option maxHeartbeats 4000000 in
set_option maxRecDepth 100000 in
theorem concat_any (x1 x2 : List In) (h10 : 0 < x1.length) (h20 : 0 < x2.length) (hl : x1.length + x2.length ≤ 100) (a1 a2 : Option Addr) (c1 c2 : Nat) (b : Nat) (w : World) (T : TypeId)
    (hB : Has w b [.slice a1 x1.length c1, .slice a2 x2.length c2] T) (h1 : Rd w (.slice a1 x1.length c1) x1.length (inCells x1)) (h2 : Rd w (.slice a2 x2.length c2) x2.length (inCells x2)) :
    Calls Try.prog 101 #[.slice (some ⟨b, 0, none⟩) 2 2] w (RowPost w 85 3 (x1 ++ x2).length (inCells (x1 ++ x2))) := by
  generalize hpost : RowPost w 85 3 (x1 ++ x2).length (inCells (x1 ++ x2)) = post
  replace hpost := Lib.hid hpost
  obtain ⟨m1, hm1⟩ : ∃ m, m = x1.length := ⟨_, rfl⟩
  obtain ⟨m2, hm2⟩ : ∃ m, m = x2.length := ⟨_, rfl⟩
  have hfin : ∀ sa sc w', RowB w 85 3 (m1 + m2) (inCells (x1 ++ x2)) sa sc w' → post (.returned (.slice sa (m1 + m2) sc)) w' := by
    intro sa sc w' h
    rw [← hpost.out]
    have e : (x1 ++ x2).length = m1 + m2 := by rw [List.length_append, hm1, hm2]
    rw [e]
    exact ⟨sa, sc, rfl, h⟩
  have gr := fun w' => grow_any (m1 + m2) (by omega) (by omega) w'
  have h1' := h1
  have h2' := h2
  rw [← hm1] at hB h1' h10 hl
  rw [← hm2] at hB h2' h20 hl
  have e0 := hB.cell (o := 0) rfl
  have e1 := hB.cell (o := 1) rfl
  have kB := fun w' (hb : Below w.heap.size w w') => hB.only (Only.of_below hb) (Nat.not_le.2 hB.lt)
  replace gr := Lib.hid gr
  replace hfin := Lib.hid hfin
  replace hm1 := Lib.hid hm1
  replace hm2 := Lib.hid hm2
  replace kB := Lib.hid kB
  clear hB
  go_enter Try.func101, Try.ntmps101
  go_wp2_with fail
  go_loopw [3, 11] (fun s i wr => ∃ k : Nat, k ≤ 2 ∧ i = .int .i64 k ∧ s = .int .i64 (sum2 m1 m2 k : Nat) ∧ wr = w) (fun _ i _ => 2 - (RowKit.intOf i).toNat)
  case atStart => exact ⟨0, by omega, rfl, rfl, rfl⟩
  case round =>
    obtain ⟨k, hk, rfl, rfl, hwr⟩ := hrel
    have hwr' := hwr.symm
    subst hwr'
    clear hwr
    rcases (show k = 0 ∨ k = 1 ∨ k = 2 by omega) with rfl | rfl | rfl
    · have z0 : sum2 m1 m2 0 = 0 := rfl
      have z1 : sum2 m1 m2 1 = m1 := rfl
      rw [z0]
      replace z0 := Lib.hid z0
      replace z1 := Lib.hid z1
      have d1 : decide ((m1 : Int) < 0) = false := decide_eq_false (by omega)
      go_wp2_with fail
      go_roundw
      case rel => exact ⟨1, by omega, by go_num, by rw [z1.out], trivial⟩
      case measure => simp [RowKit.intOf]
    · have z1 : sum2 m1 m2 1 = m1 := rfl
      have z2 : sum2 m1 m2 2 = m1 + m2 := rfl
      rw [z1]
      replace z1 := Lib.hid z1
      replace z2 := Lib.hid z2
      have d1 : decide ((m1 : Int) + (m2 : Int) < 0) = false := decide_eq_false (by omega)
      go_wp2_with fail
      go_roundw
      case rel => exact ⟨2, by omega, by go_num, by rw [z2.out]; go_num, trivial⟩
      case measure => simp [RowKit.intOf]
    · have z2 : sum2 m1 m2 2 = m1 + m2 := rfl
      rw [z2]
      replace z2 := Lib.hid z2
      clear hk e0 e1
      go_wp2_with fail
      refine (gr.out _).mono ?_
      rintro e w5 ⟨c, rfl, hR0⟩
      replace hR0 := Lib.hid hR0
      go_wp2_with fail
      go_loopw [6, 27] (fun s i wx => ∃ (k : Nat) (sa : Option Addr) (sc : Nat), k ≤ 2 ∧ i = .int .i64 k ∧ s = .slice sa (sum2 m1 m2 k) sc ∧ RowB w 85 3 (sum2 m1 m2 k) (inCells (cat2 x1 x2 k)) sa sc wx) (fun _ i _ => 2 - (RowKit.intOf i).toNat)
      case atStart => exact ⟨0, _, _, by omega, rfl, rfl, hR0.out⟩
      case round =>
        clear hR0
        obtain ⟨k, sa, sc, hk, rfl, rfl, hR⟩ := hrel
        rcases (show k = 0 ∨ k = 1 ∨ k = 2 by omega) with rfl | rfl | rfl
        · have z0 : sum2 m1 m2 0 = 0 := rfl
          have z1 : sum2 m1 m2 1 = m1 := rfl
          have y0 : cat2 x1 x2 0 = [] := rfl
          have y1 : cat2 x1 x2 1 = x1 := rfl
          rw [z0, y0] at hR
          rw [z0]
          have hbk := hR.b
          have hBk := kB.out _ hbk
          have e0 := hBk.cell (o := 0) rfl
          have e1 := hBk.cell (o := 1) rfl
          obtain ⟨bl, ol, cl, ea, fa⟩ := (h1'.kept hbk).cells (by omega)
          simp only [Value.slice.injEq, true_and] at ea
          obtain ⟨rfl, hcap⟩ := ea
          replace hcap := Lib.hid hcap
          have hnews : ∀ j u, (inCells x1)[j]? = some u → wr.cell? ((⟨bl, ol, none⟩ : Addr).add j) = some u := by
            intro j u hj
            have e : (⟨bl, ol, none⟩ : Addr).add j = ⟨bl, ol + j, none⟩ := by unfold Addr.add; split <;> simp_all
            rw [e]
            exact fa j u hj
          have hnl : (inCells x1).length = m1 * 3 := by rw [hm1.out]; exact inCells_len x1
          have hno := in_one x1
          have ho := hR.o
          obtain ⟨xs, hxs⟩ : ∃ xs, xs = inCells x1 := ⟨_, rfl⟩
          rw [← hxs] at hnews hnl hno
          have hby : (0 + m1) * 24 ≤ 140737488355328 := by omega
          replace hxs := Lib.hid hxs
          replace z0 := Lib.hid z0
          replace z1 := Lib.hid z1
          replace y0 := Lib.hid y0
          replace y1 := Lib.hid y1
          replace hR := Lib.hid hR
          clear fa hBk hbk
          go_wp2_with (at_builtin; refine wpList_app rfl (.tmp 31) (.tmp 32) 79 rfl 85 inZ 3 24 Try.underlying79 infoIn rfl (by decide) (by decide) sa 0 sc (inCells []) (by exact ho) rfl ⟨bl, ol, none⟩ m1 c1 xs rfl hnl hnews hno (by exact hby) ?_)
          intro sa' sc' w6 own6 only6 fresh6
          have hR6 := hR.out.app (m := m1) (ys := xs) own6 only6 fresh6
          have hS6 : RowB w 85 3 (sum2 m1 m2 1) (inCells (cat2 x1 x2 1)) sa' sc' w6 := by
            rw [z1.out, y1.out, ← hxs.out]
            simpa [inCells] using hR6
          replace hS6 := Lib.hid hS6
          clear hR6 own6 only6 fresh6 ho hnews hnl hno hR e0 e1
          go_wp2_with fail
          go_roundw
          case rel => exact ⟨1, sa', sc', by omega, by go_num, by rw [z1.out], hS6.out⟩
          case measure => simp [RowKit.intOf]
        · have z1 : sum2 m1 m2 1 = m1 := rfl
          have z2 : sum2 m1 m2 2 = m1 + m2 := rfl
          have y1 : cat2 x1 x2 1 = x1 := rfl
          have y2 : cat2 x1 x2 2 = x1 ++ x2 := rfl
          rw [z1, y1] at hR
          rw [z1]
          have hbk := hR.b
          have hBk := kB.out _ hbk
          have e0 := hBk.cell (o := 0) rfl
          have e1 := hBk.cell (o := 1) rfl
          obtain ⟨bl, ol, cl, ea, fa⟩ := (h2'.kept hbk).cells (by omega)
          simp only [Value.slice.injEq, true_and] at ea
          obtain ⟨rfl, hcap⟩ := ea
          replace hcap := Lib.hid hcap
          have hnews : ∀ j u, (inCells x2)[j]? = some u → wr.cell? ((⟨bl, ol, none⟩ : Addr).add j) = some u := by
            intro j u hj
            have e : (⟨bl, ol, none⟩ : Addr).add j = ⟨bl, ol + j, none⟩ := by unfold Addr.add; split <;> simp_all
            rw [e]
            exact fa j u hj
          have hnl : (inCells x2).length = m2 * 3 := by rw [hm2.out]; exact inCells_len x2
          have hno := in_one x2
          have ho := hR.o
          obtain ⟨xs, hxs⟩ : ∃ xs, xs = inCells x2 := ⟨_, rfl⟩
          rw [← hxs] at hnews hnl hno
          have hby : (m1 + m2) * 24 ≤ 140737488355328 := by omega
          replace hxs := Lib.hid hxs
          replace z1 := Lib.hid z1
          replace z2 := Lib.hid z2
          replace y1 := Lib.hid y1
          replace y2 := Lib.hid y2
          replace hR := Lib.hid hR
          clear fa hBk hbk
          go_wp2_with (at_builtin; refine wpList_app rfl (.tmp 31) (.tmp 32) 79 rfl 85 inZ 3 24 Try.underlying79 infoIn rfl (by decide) (by decide) sa m1 sc (inCells x1) (by exact ho) rfl ⟨bl, ol, none⟩ m2 c2 xs rfl hnl hnews hno (by exact hby) ?_)
          intro sa' sc' w6 own6 only6 fresh6
          have hR6 := hR.out.app (m := m1 + m2) (ys := xs) own6 only6 fresh6
          have hS6 : RowB w 85 3 (sum2 m1 m2 2) (inCells (cat2 x1 x2 2)) sa' sc' w6 := by
            rw [z2.out, y2.out, inC_app, ← hxs.out]
            exact hR6
          replace hS6 := Lib.hid hS6
          clear hR6 own6 only6 fresh6 ho hnews hnl hno hR e0 e1
          go_wp2_with fail
          go_roundw
          case rel => exact ⟨2, sa', sc', by omega, by go_num, by rw [z2.out], hS6.out⟩
          case measure => simp [RowKit.intOf]
        · have z2 : sum2 m1 m2 2 = m1 + m2 := rfl
          have y2 : cat2 x1 x2 2 = x1 ++ x2 := rfl
          rw [z2, y2] at hR
          rw [z2]
          have hf := hfin.out sa sc wr hR
          replace hf := Lib.hid hf
          replace z2 := Lib.hid z2
          replace y2 := Lib.hid y2
          clear hR hk
          go_wp2_with fail
          first | exact hf.out | (go_ret; exact hf.out)
set_option maxHeartbeats 1000000 in
theorem uthen_any (x1 x2 : List In) (h10 : 0 < x1.length) (h20 : 0 < x2.length) (hl : x1.length + x2.length ≤ 100) (a1 a2 : Option Addr) (c1 c2 : Nat) (w : World) (h1 : Rd w (.slice a1 x1.length c1) x1.length (inCells x1)) (h2 : Rd w (.slice a2 x2.length c2) x2.length (inCells x2)) :
    Calls Try.prog 68 #[.slice a1 x1.length c1, .slice a2 x2.length c2] w (RowPost w 85 3 (x1 ++ x2).length (inCells (x1 ++ x2))) := by
  obtain ⟨W1, hW1⟩ : ∃ W1, W1 = w.alloc (.cells #[.slice a1 x1.length c1, .slice a2 x2.length c2] 79) := ⟨_, rfl⟩
  have hb1 : Below w.heap.size w W1 := by rw [hW1]; exact (Below.refl _ _).alloc (Nat.le_refl _) _
  have hB : Has W1 w.heap.size [.slice a1 x1.length c1, .slice a2 x2.length c2] 79 := by rw [hW1]; exact Has.new w _ _
  have hc := concat_any x1 x2 h10 h20 hl a1 a2 c1 c2 w.heap.size W1 79 hB (h1.kept hb1) (h2.kept hb1)
  generalize hpost : RowPost w 85 3 (x1 ++ x2).length (inCells (x1 ++ x2)) = post
  have hfin : ∀ e w', RowPost W1 85 3 (x1 ++ x2).length (inCells (x1 ++ x2)) e w' → (∃ v, e = .returned v) ∧ post e w' := fun e w' ⟨sa, sc, he, h⟩ => by
    rw [← hpost]
    refine ⟨⟨_, he⟩, sa, sc, he, h.o, fun k hk => ?_, hb1.trans (h.b.mono hb1.size)⟩
    have := h.ob k hk
    have := hb1.size
    omega
  generalize RowPost W1 85 3 (x1 ++ x2).length (inCells (x1 ++ x2)) = post1 at hc hfin
  replace hc := Lib.hid (hc.mono hfin)
  replace hW1 := Lib.hid hW1.symm
  clear hpost hfin h1 h2 hB hb1
  go_enter Try.func68, Try.ntmps68
  go_wp2_with fail
  rw [hW1.out]
  refine hc.out.mono ?_
  rintro e w' ⟨⟨v, rfl⟩, h⟩
  replace h := Lib.hid h
  go_wp2_with fail
  first | exact h.out | (go_ret; exact h.out)
end Go.Proofs.Ytjmdibgncaljaaa
