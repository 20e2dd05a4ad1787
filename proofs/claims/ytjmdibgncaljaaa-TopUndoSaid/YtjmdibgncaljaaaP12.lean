/- Programs of memory instructions: dProgram, valid, execute, Run on a thread of a device. Programs: valid, execute, Run on a thread of a device. Programs: Run on a thread of a device. -/
import Derived.Test.YtjmdibgncaljaaaD11
import Derived.Test.YtjmdibgncaljaaaD16
import Derived.IntWalk
namespace Go.Proofs.Ytjmdibgncaljaaa
open Go.RowKit
/-- An instruction of a program: 1 store, 2 flush, 3 fence. -/
structure In where
  k : Nat
  off : Nat
  v : Nat
def In.cells (x : In) : List Value := [.int .u8 (x.k : Int), .int .u64 (x.off : Int), .int .u64 (x.v : Int)]
def inCells (l : List In) : List Value := l.flatMap In.cells
structure In.Fit (x : In) : Prop where
  k : 1 ≤ x.k ∧ x.k ≤ 3
  off : x.off < 256
  al : x.off % 8 = 0
  v : x.v < 18446744073709551616
theorem inCells_get : ∀ (es : List In) (i : Nat) (e : In), es[i]? = some e → ∀ j v, e.cells[j]? = some v → (inCells es)[i * 3 + j]? = some v
  | q :: es, 0, e, h, j, v, hj => by
    simp at h
    subst h
    have hl : j < q.cells.length := by
      rcases Nat.lt_or_ge j q.cells.length with h1 | h1
      · exact h1
      · rw [List.getElem?_eq_none h1] at hj; cases hj
    simp only [inCells, List.flatMap_cons, Nat.zero_mul, Nat.zero_add]
    rw [List.getElem?_append_left hl]; exact hj
  | q :: es, i + 1, e, h, j, v, hj => by
    have := inCells_get es i e (by simpa using h) j v hj
    have e1 : (i + 1) * 3 + j = q.cells.length + (i * 3 + j) := by show _ = 3 + _; omega
    simp only [inCells, List.flatMap_cons]
    rw [e1, List.getElem?_append_right (by omega), Nat.add_sub_cancel_left]
    exact this
  | [], _, _, h, _, _, _ => by simp at h
theorem inCells_snoc (l : List In) (x : In) : inCells (l ++ [x]) = inCells l ++ x.cells := by simp [inCells]
theorem inCells_len (l : List In) : (inCells l).length = l.length * 3 := by
  induction l with
  | nil => rfl
  | cons s l ih => simp only [inCells, List.flatMap_cons, List.length_append, List.length_cons] at *; rw [ih]; show 3 + _ = _; omega
theorem inCells_app (a b : List In) : inCells (a ++ b) = inCells a ++ inCells b := by unfold inCells; rw [List.flatMap_append]
theorem inCells_take (l : List In) (c : Nat) (h : c ≤ l.length) : inCells (l.take c) = (inCells l).take (c * 3) := by
  have e := inCells_app (l.take c) (l.drop c)
  rw [List.take_append_drop] at e
  have h1 : (inCells (l.take c)).length = c * 3 := by rw [inCells_len, List.length_take, Nat.min_eq_left h]
  rw [e, List.take_append_of_le_length (Nat.le_of_eq h1.symm), List.take_of_length_le (Nat.le_of_eq h1)]
/-- What dProgram is given. -/
structure Di where
  k : Nat
  w : Nat
  v : Nat
def Di.cells (x : Di) : List Value := [.int .u8 (x.k : Int), .int .u8 (x.w : Int), .int .u64 (x.v : Int)]
def diCells (l : List Di) : List Value := l.flatMap Di.cells
structure Di.Fit (x : Di) : Prop where
  k : x.k < 256
  w : x.w < 256
  v : x.v < 18446744073709551616
theorem diCells_get : ∀ (es : List Di) (i : Nat) (e : Di), es[i]? = some e → ∀ j v, e.cells[j]? = some v → (diCells es)[i * 3 + j]? = some v
  | q :: es, 0, e, h, j, v, hj => by
    simp at h
    subst h
    have hl : j < q.cells.length := by
      rcases Nat.lt_or_ge j q.cells.length with h1 | h1
      · exact h1
      · rw [List.getElem?_eq_none h1] at hj; cases hj
    simp only [diCells, List.flatMap_cons, Nat.zero_mul, Nat.zero_add]
    rw [List.getElem?_append_left hl]; exact hj
  | q :: es, i + 1, e, h, j, v, hj => by
    have := diCells_get es i e (by simpa using h) j v hj
    have e1 : (i + 1) * 3 + j = q.cells.length + (i * 3 + j) := by show _ = 3 + _; omega
    simp only [diCells, List.flatMap_cons]
    rw [e1, List.getElem?_append_right (by omega), Nat.add_sub_cancel_left]
    exact this
  | [], _, _, h, _, _, _ => by simp at h
def Di.to (x : Di) : In := if x.k % 4 = 2 then ⟨2, 8 * (x.w % 32), 0⟩ else if x.k % 4 = 3 then ⟨3, 0, 0⟩ else ⟨1, 8 * (x.w % 32), x.v⟩
theorem Di.to_eq (x : Di) : x.to = if x.k % 4 = 2 then ⟨2, 8 * (x.w % 32), 0⟩ else if x.k % 4 = 3 then ⟨3, 0, 0⟩ else ⟨1, 8 * (x.w % 32), x.v⟩ := rfl
theorem Di.fit {x : Di} (h : x.Fit) : x.to.Fit := by
  have h3 := h.v
  unfold Di.to
  split
  · exact ⟨⟨by show 1 ≤ 2; decide, by show 2 ≤ 3; decide⟩, by show 8 * (x.w % 32) < 256; omega, by show 8 * (x.w % 32) % 8 = 0; omega, by show 0 < _; decide⟩
  split
  · exact ⟨⟨by show 1 ≤ 3; decide, by show 3 ≤ 3; decide⟩, by show 0 < 256; decide, rfl, by show 0 < _; decide⟩
  · exact ⟨⟨by show 1 ≤ 1; decide, by show 1 ≤ 3; decide⟩, by show 8 * (x.w % 32) < 256; omega, by show 8 * (x.w % 32) % 8 = 0; omega, h3⟩
theorem infoIn : (Try.prog.info? 85).map (fun i => (i.zero, i.size, i.bytes)) = some (some (.agg #[.int .u8 0, .int .u64 0, .int .u64 0]), 3, 24) := by kernel_rfl
theorem newsIn {w : World} {b : Nat} {cs : List Value} {T : TypeId} (h : Has w b cs T) (j : Nat) (u : Value) (hj : cs[j]? = some u) : w.cell? (Addr.add ⟨b, 0, none⟩ j) = some u := by
  have := h.cell hj
  unfold Addr.add
  split
  · simp_all
  · simpa using this
/-- The program so far, in a slice of its own. -/
structure ProgO (w : World) (ps : List In) (n : Nat) (oa : Option Addr) (oc : Nat) (wr : World) : Prop where
  ln : ps.length = n
  o : wr.ownsRow 0 85 3 (.slice oa n oc) n (inCells ps)
  ob : ∀ k, Value.ownBlock (.slice oa n oc) = some k → w.heap.size ≤ k
  b : Below w.heap.size w wr
theorem ProgO.below {w wr wr2 : World} {es : List In} {n : Nat} {oa : Option Addr} {oc : Nat} (h : ProgO w es n oa oc wr) (hb : Below wr.heap.size wr wr2) : ProgO w es n oa oc wr2 :=
  ⟨h.ln, ownsRow_only h.o (Only.of_below hb) (fun k hk e => by have := ownsRow_lt h.o hk; omega), h.ob, h.b.trans (hb.mono h.b.size)⟩
theorem ProgO.app {w w1 w2 : World} {es : List In} {e : In} {n : Nat} {oa oa' : Option Addr} {oc oc' : Nat} (h : ProgO w es n oa oc w1)
    (own2 : w2.ownsRow 0 85 3 (.slice oa' (n + 1) oc') (n + 1) (inCells es ++ e.cells)) (only2 : Only (fun k => Value.ownBlock (.slice oa n oc) = some k) w1 w2)
    (fresh2 : ∀ k, Value.ownBlock (.slice oa' (n + 1) oc') = some k → Value.ownBlock (.slice oa n oc) = some k ∨ w1.heap.size ≤ k) : ProgO w (es ++ [e]) (n + 1) oa' oc' w2 := by
  have hs := h.b.size
  refine ⟨by rw [List.length_append, List.length_singleton, h.ln], by rw [inCells_snoc]; exact own2, fun k hk => ?_, h.b.trans (only2.below (B := w.heap.size) hs (fun k _ e => h.ob k e))⟩
  rcases fresh2 k hk with h1 | h1
  · exact h.ob k h1
  · omega
def progP (l : List Di) : List In := (l.map Di.to).take 14
set_option maxHeartbeats 4000000 in
set_option maxRecDepth 100000 in
theorem dprog_any (a : Option Addr) (c : Nat) (l : List Di) (hf : ∀ x ∈ l, x.Fit) (w : World) (hr : Rd w (.slice a l.length c) l.length (diCells l)) (hll : l.length ≤ 9223372036854775807) :
    Calls Try.prog 31 #[.slice a l.length c, .int .i64 14] w fun e w' => ∃ oa oc, e = .returned (.slice oa (progP l).length oc) ∧ ProgO w (progP l) (progP l).length oa oc w' := by
  generalize hpost : (fun (e : Ending) w' => ∃ oa oc, e = .returned (.slice oa (progP l).length oc) ∧ ProgO w (progP l) (progP l).length oa oc w') = post
  replace hpost := Lib.hid hpost
  have hE0 : ProgO w ((l.map Di.to).take 0) 0 none 0 w := ⟨rfl, World.ownsRow_nil _ _ _ _, fun k hk => (by cases hk), Below.refl _ _⟩
  go_enter Try.func31, Try.ntmps31
  go_wp2_with fail
  go_loopw [5, 6] (fun o i wr => ∃ (k : Nat) (oa : Option Addr) (oc : Nat), k ≤ l.length ∧ k ≤ 14 ∧ i = .int .i64 (k : Int) ∧ o = .slice oa k oc ∧ ProgO w ((l.map Di.to).take k) k oa oc wr) (fun _ i _ => 14 - (intOf i).toNat)
  case atStart => exact ⟨0, none, 0, Nat.zero_le _, by omega, rfl, rfl, hE0⟩
  case round =>
    clear hE0
    obtain ⟨k, oa, oc, hk, hk14, rfl, rfl, hR⟩ := hrel
    by_cases hlt : k < l.length ∧ k < 14
    · obtain ⟨hlt, hlt14⟩ := hlt
      have hlI : (k : Int) < (l.length : Int) := by omega
      have hl14 : (k : Int) < 14 := by omega
      obtain ⟨bl, ol, cl, ea, fa⟩ := (hr.kept hR.b).cells (by omega)
      simp only [Value.slice.injEq, true_and] at ea
      obtain ⟨rfl, hcp⟩ := ea
      replace hcp := Lib.hid hcp
      have hat := Dev.get_of_lt (⟨0, 0, 0⟩ : Di) hlt
      have hfa := hf _ (List.mem_of_getElem? hat)
      have htk : (l.map Di.to).take (k + 1) = (l.map Di.to).take k ++ [(l.getD k ⟨0, 0, 0⟩).to] := by
        rw [take_getD (l.map Di.to) k (Di.to ⟨0, 0, 0⟩) (by simpa using hlt)]
        congr 2
        rw [List.getD, List.getElem?_map, List.getD, List.getElem?_eq_getElem hlt]; rfl
      generalize l.getD k ⟨0, 0, 0⟩ = x at *
      have c0 : wr.cell? ⟨bl, ol + k * 3, none⟩ = some (.int .u8 (x.k : Int)) := fa _ _ (diCells_get l k x hat 0 _ rfl)
      have c1 : wr.cell? ⟨bl, ol + k * 3 + 1, none⟩ = some (.int .u8 (x.w : Int)) := fa _ _ (diCells_get l k x hat 1 _ rfl)
      have c2 : wr.cell? ⟨bl, ol + k * 3 + 2, none⟩ = some (.int .u64 (x.v : Int)) := fa _ _ (diCells_get l k x hat 2 _ rfl)
      have h1 := hfa.k
      have h2 := hfa.w
      have ho1 := hR.o
      have hby1 : (k + 1) * 24 ≤ 140737488355328 := by omega
      have hk4 : (x.k : Int) % 4 = ((x.k % 4 : Nat) : Int) := by simp
      have hw32 : (x.w : Int) % 32 = ((x.w % 32 : Nat) : Int) := by simp
      have hwr : IntKind.u64.wrap (8 * ((x.w % 32 : Nat) : Int)) = ((8 * (x.w % 32) : Nat) : Int) := by
        rw [IntWalk.u64_in _ (by omega)]; simp
      have hwr2 : IntKind.u64.wrap ((x.w % 32 : Nat) : Int) = ((x.w % 32 : Nat) : Int) := IntWalk.u64_in _ (by omega)
      have hto0 := x.to_eq
      obtain ⟨q, hq⟩ : ∃ q, q = x.w % 32 := ⟨_, rfl⟩
      have hq32 : q < 32 := by omega
      rw [← hq] at hw32 hwr hwr2 hto0
      obtain ⟨m4, hm4⟩ : ∃ m4, m4 = x.k % 4 := ⟨_, rfl⟩
      have hm4l : m4 < 4 := by omega
      rw [← hm4] at hk4 hto0
      replace hq := Lib.hid hq
      replace hm4 := Lib.hid hm4
      replace hat := Lib.hid hat
      replace htk := Lib.hid htk
      clear fa
      clear ho1
      by_cases e2 : m4 = 2
      · have hto := Lib.hid (show x.to = ⟨2, 8 * q, 0⟩ by rw [hto0]; rw [if_pos e2])
        rw [e2] at hk4
        have hkk : (x.k : Int) % 4 = 2 := hk4
        clear hk4
        clear hto0
        have hR1a := hR.below ((Below.refl wr.heap.size wr).alloc (Nat.le_refl _) (.cells #[.int .u8 2, .int .u64 ((8 * q : Nat) : Int), .int .u64 0] 85))
        have hN1 := Has.new wr [.int .u8 2, .int .u64 ((8 * q : Nat) : Int), .int .u64 0] 85
        have ho1 := hR1a.o
        replace hR1a := Lib.hid hR1a
        clear hR
        go_wp2_with (at_builtin; refine wpList_app rfl (.tmp 45) (.tmp 48) 79 rfl 85 (.agg #[.int .u8 0, .int .u64 0, .int .u64 0]) 3 24 Try.underlying79 infoIn rfl (by decide) (by decide) oa k oc (inCells ((l.map Di.to).take k)) (by exact ho1) rfl _ 1 1 [.int .u8 2, .int .u64 ((8 * q : Nat) : Int), .int .u64 0] rfl rfl (by exact newsIn hN1) (by simp [Value.oneCell']) (by exact hby1) ?_)
        intro oa' oc' w2 own2 only2 fresh2
        have hrel' := Lib.hid (hR1a.out.app (e := x.to) (by rw [hto.out]; exact own2) only2 (fun j hj => by have := fresh2 j hj; simpa using this))
        rw [← htk.out] at hrel'
        clear hN1 ho1 own2 only2 fresh2 hR1a
        go_wp2_with fail
        exact ⟨⟨k + 1, oa', oc', by omega, by omega, by go_num, rfl, hrel'.out⟩, by simp [intOf]; omega⟩
      by_cases e3 : m4 = 3
      · have hto := Lib.hid (show x.to = ⟨3, 0, 0⟩ by rw [hto0]; rw [if_neg e2, if_pos e3])
        rw [e3] at hk4
        have hkk : (x.k : Int) % 4 = 3 := hk4
        clear hk4
        clear hto0
        have hR1a := hR.below ((Below.refl wr.heap.size wr).alloc (Nat.le_refl _) (.cells #[.int .u8 3, .int .u64 0, .int .u64 0] 85))
        have hN1 := Has.new wr [.int .u8 3, .int .u64 0, .int .u64 0] 85
        have ho1 := hR1a.o
        replace hR1a := Lib.hid hR1a
        clear hR
        go_wp2_with (at_builtin; refine wpList_app rfl (.tmp 52) (.tmp 54) 79 rfl 85 (.agg #[.int .u8 0, .int .u64 0, .int .u64 0]) 3 24 Try.underlying79 infoIn rfl (by decide) (by decide) oa k oc (inCells ((l.map Di.to).take k)) (by exact ho1) rfl _ 1 1 [.int .u8 3, .int .u64 0, .int .u64 0] rfl rfl (by exact newsIn hN1) (by simp [Value.oneCell']) (by exact hby1) ?_)
        intro oa' oc' w2 own2 only2 fresh2
        have hrel' := Lib.hid (hR1a.out.app (e := x.to) (by rw [hto.out]; exact own2) only2 (fun j hj => by have := fresh2 j hj; simpa using this))
        rw [← htk.out] at hrel'
        clear hN1 ho1 own2 only2 fresh2 hR1a
        go_wp2_with fail
        exact ⟨⟨k + 1, oa', oc', by omega, by omega, by go_num, rfl, hrel'.out⟩, by simp [intOf]; omega⟩
      · have hto := Lib.hid (show x.to = ⟨1, 8 * q, x.v⟩ by rw [hto0]; rw [if_neg e2, if_neg e3])
        have hk2 : ((m4 : Int) == 2) = false := by rw [beq_eq_false_iff_ne]; omega
        have hk3 : ((m4 : Int) == 3) = false := by rw [beq_eq_false_iff_ne]; omega
        have hk2' : ¬ (m4 : Int) = 2 := by omega
        have hk3' : ¬ (m4 : Int) = 3 := by omega
        have hR1a := hR.below ((Below.refl wr.heap.size wr).alloc (Nat.le_refl _) (.cells #[.int .u8 1, .int .u64 ((8 * q : Nat) : Int), .int .u64 (x.v : Int)] 85))
        have hN1 := Has.new wr [.int .u8 1, .int .u64 ((8 * q : Nat) : Int), .int .u64 (x.v : Int)] 85
        have ho1 := hR1a.o
        replace hR1a := Lib.hid hR1a
        clear hR
        go_wp2_with (at_builtin; refine wpList_app rfl (.tmp 33) (.tmp 41) 79 rfl 85 (.agg #[.int .u8 0, .int .u64 0, .int .u64 0]) 3 24 Try.underlying79 infoIn rfl (by decide) (by decide) oa k oc (inCells ((l.map Di.to).take k)) (by exact ho1) rfl _ 1 1 [.int .u8 1, .int .u64 ((8 * q : Nat) : Int), .int .u64 (x.v : Int)] rfl rfl (by exact newsIn hN1) (by simp [Value.oneCell']) (by exact hby1) ?_)
        intro oa' oc' w2 own2 only2 fresh2
        have hrel' := Lib.hid (hR1a.out.app (e := x.to) (by rw [hto.out]; exact own2) only2 (fun j hj => by have := fresh2 j hj; simpa using this))
        rw [← htk.out] at hrel'
        clear hN1 ho1 own2 only2 fresh2 hR1a
        go_wp2_with fail
        exact ⟨⟨k + 1, oa', oc', by omega, by omega, by go_num, rfl, hrel'.out⟩, by simp [intOf]; omega⟩
    · have hlen : (progP l).length = k := by unfold progP; rw [List.length_take, List.length_map]; omega
      have hpe : (l.map Di.to).take k = progP l := by
        unfold progP
        by_cases h14 : k = 14
        · rw [h14]
        · rw [List.take_of_length_le (by rw [List.length_map]; omega), List.take_of_length_le (by rw [List.length_map]; omega)]
      rw [hpe] at hR
      have hend : decide ((k : Int) < (l.length : Int)) = false ∨ (decide ((k : Int) < (l.length : Int)) = true ∧ decide ((k : Int) < 14) = false) := by
        by_cases h6 : k < l.length
        · exact .inr ⟨decide_eq_true (by omega), decide_eq_false (by omega)⟩
        · exact .inl (decide_eq_false (by omega))
      have hfin : post (.returned (.slice oa k oc)) wr := by rw [← hpost.out]; exact ⟨oa, oc, by rw [hlen], by rw [hlen]; exact hR⟩
      replace hfin := Lib.hid hfin
      replace hlen := Lib.hid hlen
      replace hpe := Lib.hid hpe
      clear hR
      have hk0 : (0 : Int) ≤ (k : Int) := by omega
      rcases hend with h | ⟨h, h'⟩
      all_goals
        go_wp2_with fail
        all_goals first | exact hfin.out | (go_ret; exact hfin.out)
end Go.Proofs.Ytjmdibgncaljaaa

namespace Go.Proofs.Ytjmdibgncaljaaa
open Go.RowKit
set_option maxHeartbeats 2000000 in
set_option maxRecDepth 100000 in
theorem pvalid_any (a : Option Addr) (c : Nat) (l : List In) (hf : ∀ x ∈ l, x.Fit) (hll : l.length ≤ 1000) (w : World) (hr : Rd w (.slice a l.length c) l.length (inCells l)) :
    Calls Try.prog 77 #[.slice a l.length c] w fun e w' => e = .returned (.bool true) ∧ Below w.heap.size w w' := by
  go_enter Try.func77, Try.ntmps77
  go_wp2_with fail
  go_loopw [7] (fun i wr => ∃ (k : Nat), k ≤ l.length ∧ i = .int .i64 (k : Int) ∧ Below w.heap.size w wr) (fun i _ => l.length - (intOf i).toNat)
  case atStart => exact ⟨0, Nat.zero_le _, rfl, Below.refl _ _⟩
  case round =>
    obtain ⟨k, hk, rfl, hB⟩ := hrel
    by_cases hlt : k < l.length
    · have hlI : (k : Int) < (l.length : Int) := by omega
      obtain ⟨bl, ol, cl, ea, fa⟩ := (hr.kept hB).cells (by omega)
      simp only [Value.slice.injEq, true_and] at ea
      obtain ⟨rfl, hcp⟩ := ea
      replace hcp := Lib.hid hcp
      have hat := Dev.get_of_lt (⟨0, 0, 0⟩ : In) hlt
      have hfa := hf _ (List.mem_of_getElem? hat)
      generalize l.getD k ⟨0, 0, 0⟩ = x at *
      have c0 : wr.cell? ⟨bl, ol + k * 3, none⟩ = some (.int .u8 (x.k : Int)) := fa _ _ (inCells_get l k x hat 0 _ rfl)
      have c1 : wr.cell? ⟨bl, ol + k * 3 + 1, none⟩ = some (.int .u64 (x.off : Int)) := fa _ _ (inCells_get l k x hat 1 _ rfl)
      have c2 : wr.cell? ⟨bl, ol + k * 3 + 2, none⟩ = some (.int .u64 (x.v : Int)) := fa _ _ (inCells_get l k x hat 2 _ rfl)
      have hk1 := hfa.k
      have d1 : decide ((x.k : Int) < 1) = false := decide_eq_false (by omega)
      have d2 : decide ((3 : Int) < (x.k : Int)) = false := decide_eq_false (by omega)
      have d1' : decide (x.k < 1) = false := decide_eq_false (by omega)
      have d2' : decide (3 < x.k) = false := decide_eq_false (by omega)
      have hB1 : Below w.heap.size w (wr.alloc (.cells #[.int .u8 (x.k : Int), .int .u64 (x.off : Int), .int .u64 (x.v : Int)] 85)) := hB.alloc hB.size _
      replace hat := Lib.hid hat
      clear fa
      go_wp2_with fail
      exact ⟨⟨k + 1, by omega, by go_num, hB1⟩, by simp [intOf]; omega⟩
    · have hlI : ¬ (k : Int) < (l.length : Int) := by omega
      go_wp2_with fail
      go_ret
      exact ⟨rfl, hB⟩

theorem m_store (a : Addr) (w : World) : (method 338 67 (.pointer (some a)) "Store").run Try.prog w = .ok (43, .pointer (some a)) w := by kernel_rfl
theorem m_flush (a : Addr) (w : World) : (method 338 67 (.pointer (some a)) "Flush").run Try.prog w = .ok (46, .pointer (some a)) w := by kernel_rfl
theorem m_fence (a : Addr) (w : World) : (method 338 67 (.pointer (some a)) "Fence").run Try.prog w = .ok (48, .pointer (some a)) w := by kernel_rfl
theorem m_err (a : Addr) (w : World) : (method 338 67 (.pointer (some a)) "Err").run Try.prog w = .ok (149, .pointer (some a)) w := by kernel_rfl
/-- What an instruction makes of the device. -/
def devI (R : Dev.Dv) (x : In) : Dev.Dv := if x.k = 1 then Dev.storeP R 0 x.off x.v else if x.k = 2 then Dev.flushP R 0 x.off else Dev.fenceP R 0
variable {w : World} {F : Dev.Own} {T : Nat} {L : Dev.Lay} {R : Dev.Dv}
def XPost (w : World) (F : Dev.Own) (L : Dev.Lay) (T : Nat) (R : Dev.Dv) (e : Ending) (w' : World) : Prop := ∃ F', e = .returned (.tuple #[]) ∧ Dev.DevSt w' F' 0 L T R ∧ Dev.Dstep w F 0 w' F'
set_option maxHeartbeats 2000000 in
set_option maxRecDepth 100000 in
theorem iexec_any (h : Dev.DevSt w F 0 L T R) (hT : T + 2 ≤ 100000) (x : In) (hx : x.Fit) :
    Calls Try.prog 78 #[.agg #[.int .u8 (x.k : Int), .int .u64 (x.off : Int), .int .u64 (x.v : Int)], .iface 67 (.pointer (some ⟨L.tb 0, 0, none⟩))] w (XPost w F L (T + 2) (devI R x)) := by
  obtain ⟨k, off, v⟩ := x
  obtain ⟨hk, ho, hal, hv⟩ := hx
  simp only at hk ho hal hv ⊢
  have hE := Has.new w [.int .u8 (k : Int), .int .u64 (off : Int), .int .u64 (v : Int)] 85
  have hB0 : Below w.heap.size w (w.alloc (.cells [.int .u8 (k : Int), .int .u64 (off : Int), .int .u64 (v : Int)].toArray 85)) := (Below.refl _ _).alloc (Nat.le_refl _) _
  have hD0 := h.trim.below hB0
  have hS0 : Dev.Dstep w F 0 (w.alloc (.cells [.int .u8 (k : Int), .int .u64 (off : Int), .int .u64 (v : Int)].toArray 85)) (F.trim w) := ⟨F.trim_ext w, (Dev.Dstep.below hB0 : Dev.Dstep w F 0 _ F).only⟩
  have h3 : k = 1 ∨ k = 2 ∨ k = 3 := by omega
  clear h hE
  rcases h3 with rfl | rfl | rfl
  · have hgo := Dev.store_any hD0 (t := 0) (off := off) (v := v) (by omega) (by decide) (by omega) hv
    have hd : devI R ⟨1, off, v⟩ = Dev.storeP R 0 off v := rfl
    rw [hd]
    have hfin : ∀ w' F', Dev.DevSt w' F' 0 L (T + 2) (Dev.storeP R 0 off v) → Dev.Dstep (w.alloc (.cells [.int .u8 ((1 : Nat) : Int), .int .u64 (off : Int), .int .u64 (v : Int)].toArray 85)) (F.trim w) 0 w' F' → XPost w F L (T + 2) (Dev.storeP R 0 off v) (.returned (.tuple #[])) w' := fun w' F' g1 g2 => ⟨F', rfl, g1, hS0.trans g2⟩
    have hms := fun w => m_store ⟨L.tb 0, 0, none⟩ w
    replace hgo := Lib.hid hgo
    replace hd := Lib.hid hd
    replace hfin := Lib.hid hfin
    clear hD0 hS0
    go_enter Try.func78, Try.ntmps78
    go_wp2_with fail
    refine hgo.out.mono ?_
    rintro e w' ⟨F', rfl, g1, g2⟩
    have hf := Lib.hid (hfin.out w' F' g1 g2)
    go_wp2_with fail
    exact bodyPost_end (results_none rfl _ _ _) rfl hf.out
  · have hgo := Dev.flush_any hD0 (t := 0) (off := off) (by omega) (by decide) (by omega)
    have hd : devI R ⟨2, off, v⟩ = Dev.flushP R 0 off := rfl
    rw [hd]
    have hfin : ∀ w' F', Dev.DevSt w' F' 0 L (T + 2) (Dev.flushP R 0 off) → Dev.Dstep (w.alloc (.cells [.int .u8 ((2 : Nat) : Int), .int .u64 (off : Int), .int .u64 (v : Int)].toArray 85)) (F.trim w) 0 w' F' → XPost w F L (T + 2) (Dev.flushP R 0 off) (.returned (.tuple #[])) w' := fun w' F' g1 g2 => ⟨F', rfl, g1, hS0.trans g2⟩
    have hms := fun w => m_flush ⟨L.tb 0, 0, none⟩ w
    replace hgo := Lib.hid hgo
    replace hd := Lib.hid hd
    replace hfin := Lib.hid hfin
    clear hD0 hS0
    go_enter Try.func78, Try.ntmps78
    go_wp2_with fail
    refine hgo.out.mono ?_
    rintro e w' ⟨F', rfl, g1, g2⟩
    have hf := Lib.hid (hfin.out w' F' g1 g2)
    go_wp2_with fail
    exact bodyPost_end (results_none rfl _ _ _) rfl hf.out
  · have hgo := Dev.fence_any hD0 (t := 0) (by omega) (by decide)
    have hd : devI R ⟨3, off, v⟩ = Dev.fenceP R 0 := rfl
    rw [hd]
    have hfin : ∀ w' F', Dev.DevSt w' F' 0 L (T + 1) (Dev.fenceP R 0) → Dev.Dstep (w.alloc (.cells [.int .u8 ((3 : Nat) : Int), .int .u64 (off : Int), .int .u64 (v : Int)].toArray 85)) (F.trim w) 0 w' F' → XPost w F L (T + 2) (Dev.fenceP R 0) (.returned (.tuple #[])) w' := fun w' F' g1 g2 => ⟨F', rfl, g1.up (by omega) (by omega), hS0.trans g2⟩
    have hms := fun w => m_fence ⟨L.tb 0, 0, none⟩ w
    replace hgo := Lib.hid hgo
    replace hd := Lib.hid hd
    replace hfin := Lib.hid hfin
    clear hD0 hS0
    go_enter Try.func78, Try.ntmps78
    go_wp2_with fail
    refine hgo.out.mono ?_
    rintro e w' ⟨F', rfl, g1, g2⟩
    have hf := Lib.hid (hfin.out w' F' g1 g2)
    go_wp2_with fail
    exact bodyPost_end (results_none rfl _ _ _) rfl hf.out
end Go.Proofs.Ytjmdibgncaljaaa

namespace Go.Proofs.Ytjmdibgncaljaaa
open Go.RowKit
variable {w : World} {F : Dev.Own} {T : Nat} {L : Dev.Lay} {R : Dev.Dv}
def RunPost (w : World) (F : Dev.Own) (L : Dev.Lay) (T : Nat) (R : Dev.Dv) (er : Int) (K : Prop) (e : Ending) (w' : World) : Prop := ∃ F', e = .returned (.int .i64 er) ∧ Dev.DevSt w' F' 0 L T R ∧ Dev.Dstep w F 0 w' F' ∧ K
def OkTo (T : Nat) (R : Dev.Dv) (l : List In) (k : Nat) : Prop := ∀ j, j ≤ k → ((l.take j).foldl devI R).Ok (T + 2 * j)
set_option maxHeartbeats 2000000 in
set_option maxRecDepth 100000 in
theorem prun_any (h : Dev.DevSt w F 0 L T R) (a : Option Addr) (c : Nat) (l : List In) (hf : ∀ x ∈ l, x.Fit) (hll : l.length ≤ 1000) (hT : T + 2 * l.length ≤ 100000) (hr : Rd w (.slice a l.length c) l.length (inCells l))
    (hsep : ∀ k, Value.ownBlock (.slice a l.length c) = some k → F k = none) :
    Calls Try.prog 32 #[.slice a l.length c, .iface 67 (.pointer (some ⟨L.tb 0, 0, none⟩))] w (RunPost w F L (T + 2 * l.length) (l.foldl devI R) (((l.foldl devI R).errs.getD 0 0 : Nat) : Int) (OkTo T R l l.length)) := by
  generalize hpost : RunPost w F L (T + 2 * l.length) (l.foldl devI R) (((l.foldl devI R).errs.getD 0 0 : Nat) : Int) (OkTo T R l l.length) = post
  have hval := pvalid_any a c l hf hll w hr
  have hms := fun w => m_err ⟨L.tb 0, 0, none⟩ w
  replace hpost := Lib.hid hpost
  replace hval := Lib.hid hval
  replace h := Lib.hid h
  go_enter Try.func32, Try.ntmps32
  go_wp2_with fail
  refine hval.out.mono ?_
  rintro e w1 ⟨rfl, hB1⟩
  have hr1 := hr.kept hB1
  have h0 : Dev.DevSt w1 F 0 L (T + 2 * 0) ((l.take 0).foldl devI R) := h.out.below hB1
  have hs0 : Dev.Dstep w F 0 w1 F := Dev.Dstep.below hB1
  have hK0 : Hid (OkTo T R l 0) := Lib.hid (fun j hj => (show j = 0 by omega) ▸ h0.ok)
  replace h0 := Lib.hid h0
  clear hval
  go_wp2_with fail
  go_loopw [16] (fun i wr => ∃ (k : Nat) (F' : Dev.Own), k ≤ l.length ∧ i = .int .i64 (k : Int) ∧ Dev.DevSt wr F' 0 L (T + 2 * k) ((l.take k).foldl devI R) ∧ Dev.Dstep w F 0 wr F' ∧ Hid (OkTo T R l k)) (fun i _ => l.length - (intOf i).toNat)
  case atStart => exact ⟨0, F, Nat.zero_le _, rfl, h0.out, hs0, hK0⟩
  case round =>
    obtain ⟨k, F', hk, rfl, hD, hS, hK⟩ := hrel
    clear h0 hs0
    by_cases hlt : k < l.length
    · have hlI : (k : Int) < (l.length : Int) := by omega
      obtain ⟨bl, ol, cl, ea, fa⟩ := (hr.only hS.only (fun k hk ⟨r, s⟩ => by rw [hsep k hk] at s; cases s)).cells (by omega)
      simp only [Value.slice.injEq, true_and] at ea
      obtain ⟨rfl, hcp⟩ := ea
      replace hcp := Lib.hid hcp
      have hat := Dev.get_of_lt (⟨0, 0, 0⟩ : In) hlt
      have hfa := hf _ (List.mem_of_getElem? hat)
      have htk : (l.take (k + 1)).foldl devI R = devI ((l.take k).foldl devI R) (l.getD k ⟨0, 0, 0⟩) := by
        rw [take_getD l k ⟨0, 0, 0⟩ hlt, List.foldl_append]; rfl
      generalize l.getD k ⟨0, 0, 0⟩ = x at *
      have c0 : wr.cell? ⟨bl, ol + k * 3, none⟩ = some (.int .u8 (x.k : Int)) := fa _ _ (inCells_get l k x hat 0 _ rfl)
      have c1 : wr.cell? ⟨bl, ol + k * 3 + 1, none⟩ = some (.int .u64 (x.off : Int)) := fa _ _ (inCells_get l k x hat 1 _ rfl)
      have c2 : wr.cell? ⟨bl, ol + k * 3 + 2, none⟩ = some (.int .u64 (x.v : Int)) := fa _ _ (inCells_get l k x hat 2 _ rfl)
      obtain ⟨wb, hwb⟩ : ∃ wb, wb = wr.alloc (.cells #[.int .u8 (x.k : Int), .int .u64 (x.off : Int), .int .u64 (x.v : Int)] 85) := ⟨_, rfl⟩
      have hBw : Below wr.heap.size wr wb := by rw [hwb]; exact (Below.refl _ _).alloc (Nat.le_refl _) _
      have hex := iexec_any (hD.below hBw) (by omega) x hfa
      rw [← htk] at hex
      have hS1 : Dev.Dstep w F 0 wb F' := hS.trans (Dev.Dstep.below hBw)
      replace hex := Lib.hid hex
      replace hwb := Lib.hid hwb
      replace hat := Lib.hid hat
      replace htk := Lib.hid htk
      replace h := h
      clear fa hD hS hBw
      go_wp2_with fail
      rw [show wr.alloc (.cells #[.int .u8 (x.k : Int), .int .u64 (x.off : Int), .int .u64 (x.v : Int)] 85) = wb from hwb.out.symm]
      refine hex.out.mono ?_
      rintro e w2 ⟨F2, rfl, hD2, hS2⟩
      have hK2 : Hid (OkTo T R l (k + 1)) := Lib.hid (fun j hj => by
        rcases Nat.lt_or_ge j (k + 1) with h1 | h1
        · exact hK.out j (by omega)
        · obtain rfl : j = k + 1 := by omega
          exact hD2.ok)
      have hrel' := Lib.hid (show Dev.DevSt w2 F2 0 L (T + 2 * (k + 1)) ((l.take (k + 1)).foldl devI R) ∧ Dev.Dstep w F 0 w2 F2 from ⟨hD2, hS1.trans hS2⟩)
      clear hD2 hS1 hS2 hex
      go_wp2_with fail
      exact ⟨⟨k + 1, F2, by omega, by go_num, hrel'.out.1, hrel'.out.2, hK2⟩, by simp [intOf]; omega⟩
    · obtain rfl : k = l.length := by omega
      have hlI : ¬ (l.length : Int) < (l.length : Int) := by omega
      rw [List.take_length] at hD
      have he := Dev.err_any hD (t := 0) (by decide)
      have hfin : post (.returned (.int .i64 (((l.foldl devI R).errs.getD 0 0 : Nat) : Int))) wr := by rw [← hpost.out]; exact ⟨F', rfl, hD, hS, hK.out⟩
      replace hfin := Lib.hid hfin
      generalize (((l.foldl devI R).errs.getD 0 0 : Nat) : Int) = er at *
      replace he := Lib.hid he
      clear hD hS
      go_wp2_with fail
      refine he.out.mono ?_
      rintro e w' ⟨rfl, rfl⟩
      go_wp2_with fail
      first | exact hfin.out | (go_ret; exact hfin.out)
end Go.Proofs.Ytjmdibgncaljaaa
