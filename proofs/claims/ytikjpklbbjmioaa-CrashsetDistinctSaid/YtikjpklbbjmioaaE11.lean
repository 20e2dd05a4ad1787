/- The reference's device: Dirty. The reference's device: Content. The reference's device: Content (the walk), Current. The reference's device: New, Current. -/
import Derived.Test.YtikjpklbbjmioaaE7
import Derived.Test.YtikjpklbbjmioaaD15
import Derived.Test.YtikjpklbbjmioaaD16
/-! The reference's device: Dirty. -/
namespace Go.Proofs.Ytikjpklbbjmioaa
open Go.RowKit Go.Maps
variable {w : World} {F : Own} {o h T : Nat} {R : Dv}

/-- A slice that grew behind a world. -/
structure Grow (wq wr : World) (E : TypeId) (a : Option Addr) (n c : Nat) (xs : List Value) : Prop where
  own : wr.ownsRow 0 E 1 (.slice a n c) n xs
  b : Below wq.heap.size wq wr
  fr : ∀ j, Value.ownBlock (.slice a n c) = some j → wq.heap.size ≤ j
theorem Grow.alloc {wq wr : World} {E : TypeId} {a : Option Addr} {n c : Nat} {xs : List Value} (h : Grow wq wr E a n c xs) (x : Obj) : Grow wq (wr.alloc x) E a n c xs := ⟨h.own.alloc _, h.b.alloc h.b.size _, h.fr⟩
theorem Grow.below {wq wr w' : World} {E : TypeId} {a : Option Addr} {n c : Nat} {xs : List Value} (h : Grow wq wr E a n c xs) (hb : Below wr.heap.size wr w') : Grow wq w' E a n c xs :=
  ⟨ownsRow_only h.own (Only.of_below hb) (by intro k hk; exact Nat.not_le.2 (ownsRow_lt h.own hk)), h.b.trans (hb.mono h.b.size), h.fr⟩
theorem Grow.drew {wq wr : World} {E : TypeId} {a : Option Addr} {n c : Nat} {xs : List Value} (h : Grow wq wr E a n c xs) : Grow wq wr.drew E a n c xs := h.below (below_drewN (Below.refl _ _) 1)
theorem Grow.app {wq wr w' : World} {E : TypeId} {a a' : Option Addr} {n c c' : Nat} {xs : List Value} {v : Value} (h : Grow wq wr E a n c xs) (own : w'.ownsRow 0 E 1 (.slice a' (n + 1) c') (n + 1) (xs ++ [v]))
    (only : Only (fun k => Value.ownBlock (.slice a n c) = some k) wr w') (fresh : ∀ k, Value.ownBlock (.slice a' (n + 1) c') = some k → Value.ownBlock (.slice a n c) = some k ∨ wr.heap.size ≤ k) : Grow wq w' E a' (n + 1) c' (xs ++ [v]) := by
  have hs := h.b.size
  refine ⟨own, h.b.trans (only.below (B := wq.heap.size) hs (fun k _ e => h.fr k e)), ?_⟩
  intro j hj
  rcases fresh j hj with h1 | h1
  · exact h.fr j h1
  · omega
theorem Grow.empty (w : World) (E : TypeId) : Grow w (w.alloc (.cells #[] E)) E (some ⟨w.heap.size, 0, none⟩) 0 0 [] :=
  ⟨own_empty w E 1, (Below.refl _ _).alloc (Nat.le_refl _) _, fun j hj => by cases hj; exact Nat.le_refl _⟩
set_option maxHeartbeats 4000000 in
set_option maxRecDepth 100000 in
theorem rdirty_any (hr : RefSt w F o h T R) : Calls Try.prog 57 #[.pointer (some ⟨h, 0, none⟩)] w (NewNats w (dirtyL R)) := by
  generalize hpost : NewNats w (dirtyL R) = post
  have hn2 := hr.ok.n2
  obtain ⟨lb, lc, ns, h1, h2, h3, _⟩ := hr.ex
  have c := h1.cell (refCells_lines lb lc ns R)
  have hlt1 := h1.lt
  have h0 : Grow w (w.alloc (.cells #[] 3)) 3 (some ⟨w.heap.size, 0, none⟩) (dirtyTo R 0).length 0 (nats (dirtyTo R 0)) := Grow.empty w 3
  have hlines := fun (i : Nat) (hi : i < R.lines.length) => h2.cells hi
  have hlb : lb < w.heap.size := by obtain ⟨cs, _, x, _⟩ := h2; exact ownsRow_lt x (k := lb) rfl
  replace hpost := Lib.hid hpost
  clear hr h2
  go_enter Try.func57, Try.ntmps57
  go_wp2_with fail
  go_loopw [3, 12] (fun v i wr => ∃ (k : Nat) (a : Option Addr) (c : Nat), k ≤ R.lines.length ∧ i = .int .i64 k ∧ v = .slice a (dirtyTo R k).length c ∧ Grow w wr 3 a (dirtyTo R k).length c (nats (dirtyTo R k))) (fun _ i _ => R.lines.length - (intOf i).toNat)
  case atStart => exact ⟨0, _, 0, Nat.zero_le _, rfl, rfl, h0⟩
  case round =>
    clear h0 c
    obtain ⟨k, a, cc, hk, rfl, rfl, hG⟩ := hrel
    by_cases hlt : k < R.lines.length
    · have hkI : (k : Int) < (R.lines.length : Int) := by omega
      have hk0 : (0 : Int) ≤ (k : Int) := by omega
      obtain ⟨va, vc, hlc, hrd⟩ := hlines k hlt
      obtain ⟨c0, c1, c2, c3, c4, c5, c6, c7, c8, c9⟩ := hlc.only (Only.of_below hG.b) (Nat.not_le.2 hlb)
      have hsucc := dirtyTo_succ R k
      have hdl := dirtyTo_len R k
      clear hlc hrd
      by_cases hq : 0 < (R.line k).hist.length
      · have hqI : (0 : Int) < ((R.line k).hist.length : Int) := by omega
        rw [if_pos hq] at hsucc
        replace hsucc := Lib.hid hsucc
        generalize hdd : dirtyTo R k = ds at *
        replace hdd := Lib.hid hdd
        have hby : (ds.length + 1) * 8 ≤ 140737488355328 := by omega
        generalize hll : R.line k = l at *
        replace hll := Lib.hid hll
        have hown := (hG.alloc (.cells #[.int .u64 ((wat l.base 0 : Nat) : Int), .int .u64 ((wat l.base 1 : Nat) : Int), .int .u64 ((wat l.base 2 : Nat) : Int), .int .u64 ((wat l.base 3 : Nat) : Int), .int .u64 ((wat l.base 4 : Nat) : Int), .int .u64 ((wat l.base 5 : Nat) : Int), .int .u64 ((wat l.base 6 : Nat) : Int), .int .u64 ((wat l.base 7 : Nat) : Int), .slice va l.hist.length vc, .int .i64 (l.done : Int)] 122))
        go_wp2_with (at_builtin; go_loud (refine wpList_app1 rfl (.tmp 21) (.tmp 23) 65 rfl 3 (.int .i64 0) 8 Try.underlying65 infoInt rfl (by decide) a ds.length cc (nats ds) rfl (.int .i64 (k : Int)) _ _ rfl rfl hown.own _ rfl (World.size_alloc _ _) (by simp [Value.oneCell']) hby ?_); intro sa cap w1 own1 only1 fresh1)
        have hG1 := hown.app own1 only1 fresh1
        have hrel : ∃ (k' : Nat) (a' : Option Addr) (c' : Nat), k' ≤ R.lines.length ∧ Value.int .i64 ((k : Int) + 1) = .int .i64 k' ∧ Value.slice sa (ds.length + 1) cap = .slice a' (dirtyTo R k').length c' ∧ Grow w w1 3 a' (dirtyTo R k').length c' (nats (dirtyTo R k')) := by
          refine ⟨k + 1, sa, cap, by omega, by go_num, ?_, ?_⟩
          · rw [hsucc.out]; simp
          · rw [hsucc.out, nats_snoc]; simpa using hG1
        replace hrel := Lib.hid hrel
        clear own1 only1 fresh1 hG hG1 hown
        go_wp2_with fail
        go_roundw
        case rel => exact hrel.out
        case measure => simp [intOf]; omega
      · have hqI : ¬ (0 : Int) < ((R.line k).hist.length : Int) := by omega
        rw [if_neg hq] at hsucc
        replace hsucc := Lib.hid hsucc
        go_wp2_with fail
        go_roundw
        case rel => exact ⟨k + 1, a, cc, by omega, by go_num, by rw [hsucc.out], by rw [hsucc.out]; exact hG.alloc _⟩
        case measure => simp [intOf]; omega
    · obtain rfl : k = R.lines.length := by omega
      have hx : post (.returned (.slice a (dirtyTo R R.lines.length).length cc)) wr := by rw [← hpost.out]; exact ⟨a, cc, rfl, hG.own, hG.b, hG.fr⟩
      replace hx := Lib.hid hx
      clear hG
      go_wp2_with fail
      exact hx.out
end Go.Proofs.Ytikjpklbbjmioaa

/-! The reference's device: Content. -/
namespace Go.Proofs.Ytikjpklbbjmioaa
open Go.RowKit Go.Maps
variable {w : World} {F : Own} {o h T : Nat} {R : Dv}

/-! ### the bytes of words as an appended list -/
def byteTo (x b : Nat) : List Nat := (List.range b).map fun j => x / 256 ^ j % 256
theorem byteTo_succ (x b : Nat) : byteTo x (b + 1) = byteTo x b ++ [x / 256 ^ b % 256] := by unfold byteTo; rw [List.range_succ, List.map_append]; rfl
theorem byteTo_len (x b : Nat) : (byteTo x b).length = b := by simp [byteTo]
theorem pow_bytes (j : Nat) : 2 ^ (j * 8) = 256 ^ j := by rw [Nat.mul_comm, Nat.pow_mul]
theorem bytesL_get2 (ws : List Nat) (i : Nat) : (bytesL ws)[i]? = if i < ws.length * 8 then some (ws.getD (i / 8) 0 / 2 ^ (i % 8 * 8) % 256) else none := by
  by_cases h : i < ws.length * 8
  · rw [if_pos h, bytesL_get ws i h]
  · rw [if_neg h, List.getElem?_eq_none (by rw [bytesL_len]; omega)]
theorem byteTo_get (x b i : Nat) : (byteTo x b)[i]? = if i < b then some (x / 256 ^ i % 256) else none := by
  by_cases h : i < b
  · rw [if_pos h]; unfold byteTo; rw [List.getElem?_map, List.getElem?_range h]; rfl
  · rw [if_neg h, List.getElem?_eq_none (by rw [byteTo_len]; omega)]
theorem bytesL_snoc (ws : List Nat) (x : Nat) : bytesL (ws ++ [x]) = bytesL ws ++ byteTo x 8 := by
  apply List.ext_getElem?
  intro i
  rw [bytesL_get2, List.getElem?_append, bytesL_len]
  by_cases h : i < ws.length * 8
  · rw [if_pos h, bytesL_get2, if_pos h, if_pos (by simp; omega)]
    simp only [List.getD_eq_getElem?_getD]; rw [List.getElem?_append_left (by omega)]
  · rw [if_neg h, byteTo_get]
    by_cases h2 : i < ws.length * 8 + 8
    · rw [if_pos (by simp; omega), if_pos (by omega)]
      have e1 : i / 8 = ws.length := by omega
      have e2 : i - ws.length * 8 = i % 8 := by omega
      rw [e1, e2, pow_bytes]; simp
    · rw [if_neg (by simp; omega), if_neg (by omega)]
theorem bytesL_nil : bytesL [] = [] := rfl
theorem u8s_snoc (l : List Nat) (v : Nat) : u8s (l ++ [v]) = u8s l ++ [.int .u8 (v : Int)] := by simp [u8s]

/-! ### the counts that Content is given -/
def kOf (R : Dv) (ks : List Nat) (l : Nat) : Nat := if 0 < (R.line l).hist.length then (if (dirtyTo R l).length < ks.length then ks.getD (dirtyTo R l).length 0 else 0) else 0
def conTo (R : Dv) (ks : List Nat) (n : Nat) : List Nat := (List.range n).flatMap fun l => wordsL (R.line l) (kOf R ks l)
theorem conTo_succ (R : Dv) (ks : List Nat) (n : Nat) : conTo R ks (n + 1) = conTo R ks n ++ wordsL (R.line n) (kOf R ks n) := by
  unfold conTo; rw [List.range_succ, List.flatMap_append]; simp
theorem conTo_all (R : Dv) (ks : List Nat) : conTo R ks R.lines.length = crashW R (kOf R ks) := by
  unfold conTo crashW crashLs; rw [List.flatMap_def, List.flatMap_def, List.map_map]; rfl
theorem kOf_nil (R : Dv) : crashW R (kOf R []) = R.perW := by
  rw [← crashW_zero]; exact crashW_congr _ _ _ (fun l _ => by unfold kOf; simp)
def curK (R : Dv) : List Nat := (dirtyL R).map fun l => (R.line l).hist.length
theorem kOf_cur (R : Dv) : crashW R (kOf R (curK R)) = R.curW := by
  rw [← crashW_all]
  refine crashW_congr _ _ _ (fun l hl => ?_)
  by_cases hc : 0 < (R.line l).hist.length
  · have h1 := dirty_lt hl hc
    have h2 := dirty_place hl hc
    unfold kOf curK
    rw [if_pos hc, List.length_map, if_pos h1, getD_of 0 (by rw [List.getElem?_map, h2]; rfl)]
  · have e0 : (R.line l).hist = [] := List.eq_nil_of_length_eq_zero (by omega)
    unfold wordsL; rw [e0]; simp
theorem conTo_take (R : Dv) (ks : List Nat) (l j : Nat) (hj : j < (wordsL (R.line l) (kOf R ks l)).length) :
    conTo R ks l ++ (wordsL (R.line l) (kOf R ks l)).take (j + 1) = (conTo R ks l ++ (wordsL (R.line l) (kOf R ks l)).take j) ++ [wat (wordsL (R.line l) (kOf R ks l)) j] := by
  rw [List.take_add_one, get_of_lt 0 hj, Option.toList_some, List.append_assoc]; rfl
theorem dirtyTo_next (R : Dv) (l : Nat) : (dirtyTo R (l + 1)).length = if 0 < (R.line l).hist.length then (dirtyTo R l).length + 1 else (dirtyTo R l).length := by
  rw [dirtyTo_succ]; split <;> simp

/-- What Content returns. -/
def NewBytes (w : World) (xs : List Nat) (e : Ending) (w' : World) : Prop := ∃ a c, e = .returned (.slice a xs.length c) ∧ Grow w w' 5 a xs.length c (u8s xs)
end Go.Proofs.Ytikjpklbbjmioaa

/-! The reference's device: Content (the walk), Current. -/
namespace Go.Proofs.Ytikjpklbbjmioaa
open Go.RowKit Go.Maps
variable {w : World} {F : Own} {o h T : Nat} {R : Dv}

theorem infoByte : (Try.prog.info? 5).map (fun i => (i.zero, i.size, i.bytes)) = some (some (.int .u8 0), 1, 1) := by kernel_rfl
theorem index_ag0 (x0 x1 x2 x3 x4 x5 x6 x7 : Value) (w : World) : (Instr.index 119 (.agg #[x0, x1, x2, x3, x4, x5, x6, x7]) (.int .i64 0)).run Try.prog w = .ok x0 w := by kernel_rfl
theorem index_ag1 (x0 x1 x2 x3 x4 x5 x6 x7 : Value) (w : World) : (Instr.index 119 (.agg #[x0, x1, x2, x3, x4, x5, x6, x7]) (.int .i64 1)).run Try.prog w = .ok x1 w := by kernel_rfl
theorem index_ag2 (x0 x1 x2 x3 x4 x5 x6 x7 : Value) (w : World) : (Instr.index 119 (.agg #[x0, x1, x2, x3, x4, x5, x6, x7]) (.int .i64 2)).run Try.prog w = .ok x2 w := by kernel_rfl
theorem index_ag3 (x0 x1 x2 x3 x4 x5 x6 x7 : Value) (w : World) : (Instr.index 119 (.agg #[x0, x1, x2, x3, x4, x5, x6, x7]) (.int .i64 3)).run Try.prog w = .ok x3 w := by kernel_rfl
theorem index_ag4 (x0 x1 x2 x3 x4 x5 x6 x7 : Value) (w : World) : (Instr.index 119 (.agg #[x0, x1, x2, x3, x4, x5, x6, x7]) (.int .i64 4)).run Try.prog w = .ok x4 w := by kernel_rfl
theorem index_ag5 (x0 x1 x2 x3 x4 x5 x6 x7 : Value) (w : World) : (Instr.index 119 (.agg #[x0, x1, x2, x3, x4, x5, x6, x7]) (.int .i64 5)).run Try.prog w = .ok x5 w := by kernel_rfl
theorem index_ag6 (x0 x1 x2 x3 x4 x5 x6 x7 : Value) (w : World) : (Instr.index 119 (.agg #[x0, x1, x2, x3, x4, x5, x6, x7]) (.int .i64 6)).run Try.prog w = .ok x6 w := by kernel_rfl
theorem index_ag7 (x0 x1 x2 x3 x4 x5 x6 x7 : Value) (w : World) : (Instr.index 119 (.agg #[x0, x1, x2, x3, x4, x5, x6, x7]) (.int .i64 7)).run Try.prog w = .ok x7 w := by kernel_rfl
theorem index_aggI (ws : List Nat) (j : Nat) (hj : j < 8) (w : World) : (Instr.index 119 (aggW ws) (.int .i64 (j : Int))).run Try.prog w = .ok (.int .u64 ((wat ws j : Nat) : Int)) w := by
  match j, hj with
  | 0, _ => exact index_ag0 _ _ _ _ _ _ _ _ w
  | 1, _ => exact index_ag1 _ _ _ _ _ _ _ _ w
  | 2, _ => exact index_ag2 _ _ _ _ _ _ _ _ w
  | 3, _ => exact index_ag3 _ _ _ _ _ _ _ _ w
  | 4, _ => exact index_ag4 _ _ _ _ _ _ _ _ w
  | 5, _ => exact index_ag5 _ _ _ _ _ _ _ _ w
  | 6, _ => exact index_ag6 _ _ _ _ _ _ _ _ w
  | 7, _ => exact index_ag7 _ _ _ _ _ _ _ _ w
def rowC (l : Ln) (v : Value) : List Value := [.int .u64 ((wat l.base 0 : Nat) : Int), .int .u64 ((wat l.base 1 : Nat) : Int), .int .u64 ((wat l.base 2 : Nat) : Int), .int .u64 ((wat l.base 3 : Nat) : Int), .int .u64 ((wat l.base 4 : Nat) : Int), .int .u64 ((wat l.base 5 : Nat) : Int), .int .u64 ((wat l.base 6 : Nat) : Int), .int .u64 ((wat l.base 7 : Nat) : Int), v, .int .i64 (l.done : Int)]
theorem conTo_len (hok : R.Ok T) (ks : List Nat) (n : Nat) (hn : n ≤ R.lines.length) : (conTo R ks n).length = n * 8 := by
  induction n with
  | zero => rfl
  | succ n ih => rw [conTo_succ, List.length_append, ih (by omega), wordsL_len, (hok.ln n (by omega)).b]; omega
/-- The last of a word's bytes, and the next word. -/
theorem bytes_full (B : List Nat) (ws : List Nat) (x : Nat) (hB : B = bytesL ws) : B ++ byteTo x 8 = bytesL (ws ++ [x]) := by rw [hB, bytesL_snoc]

set_option maxHeartbeats 8000000 in
set_option maxRecDepth 100000 in
theorem rcontent_any (hr : RefSt w F o h T R) (ka : Option Addr) (kc : Nat) (ks : List Nat) (hks : Rd w (.slice ka ks.length kc) ks.length (nats ks)) (hkl : ∀ l, l < R.lines.length → kOf R ks l ≤ (R.line l).hist.length) (hkn : ks.length ≤ 100000) :
    Calls Try.prog 55 #[.pointer (some ⟨h, 0, none⟩), .slice ka ks.length kc] w (NewBytes w (bytesL (crashW R (kOf R ks)))) := by
  generalize hpost : NewBytes w (bytesL (crashW R (kOf R ks))) = post
  have hn2 := hr.ok.n2
  have hok := hr.ok
  have ht100 := hr.ok.t
  obtain ⟨lb, lc, ns, h1, h2, h3, _⟩ := hr.ex
  have c := h1.cell (refCells_lines lb lc ns R)
  have hlt1 := h1.lt
  have h0 : Grow w (w.alloc (.cells #[] 5)) 5 (some ⟨w.heap.size, 0, none⟩) (bytesL (conTo R ks 0)).length 0 (u8s (bytesL (conTo R ks 0))) := Grow.empty w 5
  have hlines := fun (i : Nat) (hi : i < R.lines.length) => h2.cells hi
  have hlb : lb < w.heap.size := by obtain ⟨cs, _, x, _⟩ := h2; exact ownsRow_lt x (k := lb) rfl
  have hcl := conTo_len hok ks
  have hall := conTo_all R ks
  replace hpost := Lib.hid hpost
  replace hall := Lib.hid hall
  replace hcl := Lib.hid hcl
  clear hr h2
  go_enter Try.func55, Try.ntmps55
  go_wp2_with fail
  go_loopw [5, 6, 19] (fun v i6 i wr => ∃ (k : Nat) (a : Option Addr) (c : Nat), k ≤ R.lines.length ∧ i = .int .i64 k ∧ i6 = .int .i64 ((dirtyTo R k).length : Nat) ∧ v = .slice a (bytesL (conTo R ks k)).length c ∧ Grow w wr 5 a (bytesL (conTo R ks k)).length c (u8s (bytesL (conTo R ks k)))) (fun _ _ i _ => R.lines.length - (intOf i).toNat)
  case atStart => exact ⟨0, _, 0, Nat.zero_le _, rfl, rfl, rfl, h0⟩
  case round =>
    clear h0 c
    obtain ⟨k, a, cc, hk, rfl, rfl, rfl, hG⟩ := hrel
    by_cases hlt : k < R.lines.length
    · have hkI : (k : Int) < (R.lines.length : Int) := by omega
      have hk0 : (0 : Int) ≤ (k : Int) := by omega
      obtain ⟨va, vc, hlc, hrd⟩ := hlines k hlt
      obtain ⟨c0, c1, c2, c3, c4, c5, c6, c7, c8, c9⟩ := hlc.only (Only.of_below hG.b) (Nat.not_le.2 hlb)
      have hrd := hrd.1.kept hG.b
      have hokl := hok.ln k hlt
      have hhl := hokl.hl
      have hnext := dirtyTo_next R k
      have hdl := dirtyTo_len R k
      have hkk := hkl k hlt
      have hL := hcl.out k (by omega)
      have hbl := bytesL_len (conTo R ks k)
      have hRow := Has.new wr (rowC (R.line k) (.slice va (R.line k).hist.length vc)) 122
      have b0 := hRow.cell (o := 0) rfl
      have b1 := hRow.cell (o := 1) rfl
      have b2 := hRow.cell (o := 2) rfl
      have b3 := hRow.cell (o := 3) rfl
      have b4 := hRow.cell (o := 4) rfl
      have b5 := hRow.cell (o := 5) rfl
      have b6 := hRow.cell (o := 6) rfl
      have b7 := hRow.cell (o := 7) rfl
      have b8 := hRow.cell (o := 8) rfl
      have b9 := hRow.cell (o := 9) rfl
      have hG1 := hG.alloc (.cells (rowC (R.line k) (.slice va (R.line k).hist.length vc)).toArray 122)
      have hwd : ∀ q : Int, q = ((kOf R ks k : Nat) : Int) → ∀ w', Below wr.heap.size wr w' → Calls Try.prog 101 #[.agg (rowC (R.line k) (.slice va (R.line k).hist.length vc)).toArray, .int .i64 q] w' (WordsPost w' (wordsL (R.line k) (kOf R ks k))) := by
        intro q hq w' hB
        subst hq
        exact words_any w' (R.line k) (kOf R ks k) va vc hokl.b hkk (by omega) (hrd.kept hB) (fun p hp => by obtain ⟨q1, q2, q3⟩ := hokl.h p hp; omega) ((R.line k).done : Int)
      have hwl : (wordsL (R.line k) (kOf R ks k)).length = 8 := by rw [wordsL_len]; exact hokl.b
      have hwlt := hokl.words (kOf R ks k)
      have htk := conTo_take R ks k
      have hsucc := conTo_succ R ks k
      have hBa := (Below.refl wr.heap.size wr).alloc (Nat.le_refl _) (.cells (rowC (R.line k) (.slice va (R.line k).hist.length vc)).toArray 122)
      have hko : kOf R ks k = if 0 < (R.line k).hist.length then (if (dirtyTo R k).length < ks.length then wat ks (dirtyTo R k).length else 0) else 0 := rfl
      have hksr := hks.kept (hG.b.trans (hBa.mono hG.b.size))
      simp only [rowC] at hBa hG1 hwd hRow hksr
      generalize hll : R.line k = l at *
      generalize hkv : kOf R ks k = kv at *
      generalize hwsl : wordsL l kv = ws at *
      generalize hdd : (dirtyTo R k).length = dn at *
      generalize hcc : conTo R ks k = pre at *
      have hG2 : Grow w (wr.alloc (.cells (rowC l (.slice va l.hist.length vc)).toArray 122)) 5 a (bytesL (pre ++ ws.take 0)).length cc (u8s (bytesL (pre ++ ws.take 0))) := by simpa [rowC] using hG1
      simp only [rowC] at hG2
      replace hwd := Lib.hid hwd
      replace hwl := Lib.hid hwl
      replace htk := Lib.hid htk
      replace hsucc := Lib.hid hsucc
      replace hko := Lib.hid hko
      replace hnext := Lib.hid hnext
      replace hL := Lib.hid hL
      replace hbl := Lib.hid hbl
      replace hll := Lib.hid hll
      replace hkv := Lib.hid hkv
      replace hwsl := Lib.hid hwsl
      replace hdd := Lib.hid hdd
      replace hcc := Lib.hid hcc
      replace hBa := Lib.hid hBa
      replace hG2 := Lib.hid hG2
      clear hRow hlc hrd hG1 hokl hkk hkl hlines
      have hdI : (dn : Int) < 4097 := by omega
      have hthree : (¬ 0 < l.hist.length ∧ kv = 0) ∨ (0 < l.hist.length ∧ ¬ dn < ks.length ∧ kv = 0) ∨ (0 < l.hist.length ∧ dn < ks.length ∧ kv = wat ks dn) := by
        have := hko.out
        by_cases e1 : 0 < l.hist.length
        · rw [if_pos e1] at this
          by_cases e2 : dn < ks.length
          · rw [if_pos e2] at this; exact .inr (.inr ⟨e1, e2, this⟩)
          · rw [if_neg e2] at this; exact .inr (.inl ⟨e1, e2, this⟩)
        · rw [if_neg e1] at this; exact .inl ⟨e1, this⟩
      rcases hthree with ⟨e1, hkq⟩ | ⟨e1, e2, hkq⟩ | ⟨e1, e2, hkq⟩
      case inl =>
        have e1I : ¬ (0 : Int) < ((l.hist.length : Nat) : Int) := by omega
        replace hkq := Lib.hid hkq
        replace hksr := Lib.hid hksr
        go_wp2_with fail
        refine (hwd.out 0 (by rw [hkq.out]; rfl) _ hBa.out).mono ?_
        rintro e w1 ⟨rfl, hBw⟩
        have hG3 := hG2.out.below hBw
        replace hG3 := Lib.hid hG3
        clear hBw c0 c1 c2 c3 c4 c5 c6 c7 c8 c9 b0 b1 b2 b3 b4 b5 b6 b7 b8 b9 hwd hBa hksr hG
        go_wp2_with fail
        go_loopw [5, 40] (fun v j wr => ∃ (m : Nat) (a : Option Addr) (c : Nat), m ≤ 8 ∧ j = .int .i64 m ∧ v = .slice a (bytesL (pre ++ ws.take m)).length c ∧ Grow w wr 5 a (bytesL (pre ++ ws.take m)).length c (u8s (bytesL (pre ++ ws.take m)))) (fun _ j _ => 8 - (intOf j).toNat)
        case atStart => exact ⟨0, _, cc, by omega, rfl, by simp, hG3.out⟩
        case round =>
          obtain ⟨m, am, cm, hm, rfl, rfl, hGm⟩ := hrel
          by_cases hm8 : m < 8
          · have em : decide ((m : Int) < 8) = true := by simp; omega
            have hm0 : (0 : Int) ≤ (m : Int) := by omega
            have hix := fun w => index_aggI ws m hm8 w
            have hx64 : wat ws m < 18446744073709551616 := hwlt _ (List.mem_of_getElem? (get_of_lt 0 (by rw [hwl.out]; exact hm8)))
            have htm := htk.out m (by rw [hwl.out]; exact hm8)
            have hlen : (bytesL (pre ++ ws.take m)).length ≤ 300000 := by
              rw [bytesL_len, List.length_append, List.length_take, hL.out]; omega
            have hwm : wrap64 ((m : Int) + 1) = (m : Int) + 1 := (by unfold wrap64; omega)
            have hGm0 : Grow w wr 5 am (bytesL (pre ++ ws.take m) ++ byteTo (wat ws m) 0).length cm (u8s (bytesL (pre ++ ws.take m) ++ byteTo (wat ws m) 0)) := by simpa [byteTo] using hGm
            replace htm := Lib.hid htm
            generalize hxx : wat ws m = x at *
            generalize hBB : bytesL (pre ++ ws.take m) = B at *
            replace hxx := Lib.hid hxx
            replace hBB := Lib.hid hBB
            replace hGm0 := Lib.hid hGm0
            replace hm8 := Lib.hid hm8
            replace hm := Lib.hid hm
            replace hwm := Lib.hid hwm
            clear hGm
            go_wp2_with fail
            go_loopw [5, 11, 12] (fun v wv b wr => ∃ (b' : Nat) (a : Option Addr) (c : Nat), b' ≤ 8 ∧ b = .int .i64 b' ∧ wv = .int .u64 ((x / 256 ^ b' : Nat) : Int) ∧ v = .slice a (B ++ byteTo x b').length c ∧ Grow w wr 5 a (B ++ byteTo x b').length c (u8s (B ++ byteTo x b'))) (fun _ _ b _ => 8 - (intOf b).toNat)
            case atStart => exact ⟨0, am, cm, by omega, rfl, by simp, by simp [byteTo], hGm0.out⟩
            case round =>
              clear hix
              obtain ⟨b, ab, cb, hb, rfl, rfl, rfl, hGb⟩ := hrel
              by_cases hb8 : b < 8
              · have eb : decide ((b : Int) < 8) = true := by simp; omega
                have hb0 : (0 : Int) ≤ (b : Int) := by omega
                have hy1 : x / 256 ^ (b + 1) = x / 256 ^ b / 256 := by rw [Nat.pow_succ, Nat.div_div_eq_div_mul]
                have hy64 : x / 256 ^ b < 18446744073709551616 := Nat.lt_of_le_of_lt (Nat.div_le_self _ _) hx64
                have hbs := byteTo_succ x b
                have hBl : (B ++ byteTo x b).length ≤ 300008 := by rw [List.length_append, byteTo_len]; omega
                have hcat : B ++ byteTo x (b + 1) = (B ++ byteTo x b) ++ [x / 256 ^ b % 256] := by rw [hbs, List.append_assoc]
                generalize hXX : B ++ byteTo x b = X at *
                generalize hyy : x / 256 ^ b = y at *
                have hyI : (y : Int) < 18446744073709551616 := by omega
                have hby : (X.length + 1) * 1 ≤ 140737488355328 := by omega
                have hwb : wrap64 ((b : Int) + 1) = (b : Int) + 1 := (by unfold wrap64; omega)
                replace hy1 := Lib.hid hy1
                replace hbs := Lib.hid hbs
                replace hcat := Lib.hid hcat
                replace hXX := Lib.hid hXX
                replace hyy := Lib.hid hyy
                replace hb8 := Lib.hid hb8
                replace hb := Lib.hid hb
                replace hwb := Lib.hid hwb
                go_wp2_with (at_builtin; go_loud (refine wpList_app1 rfl (.tmp 47) (.tmp 50) 31 rfl 5 (.int .u8 0) 1 Try.underlying31 infoU8 rfl (by decide) ab X.length cb (u8s X) rfl (.int .u8 ((y : Int) % 256)) _ _ rfl rfl hGb.own _ rfl rfl (by simp [Value.oneCell']) hby ?_); intro sa cap w2 own2 only2 fresh2)
                have hG4 := hGb.app own2 only2 fresh2
                have hG5 : Grow w w2 5 sa (B ++ byteTo x (b + 1)).length cap (u8s (B ++ byteTo x (b + 1))) := by
                  rw [hcat.out, u8s_snoc]; simpa using hG4
                have hrel : ∃ (b' : Nat) (a : Option Addr) (c : Nat), b' ≤ 8 ∧ Value.int .i64 ((b : Int) + 1) = .int .i64 b' ∧ Value.int .u64 ((y : Int) / 256) = .int .u64 ((x / 256 ^ b' : Nat) : Int) ∧ Value.slice sa (X.length + 1) cap = .slice a (B ++ byteTo x b').length c ∧ Grow w w2 5 a (B ++ byteTo x b').length c (u8s (B ++ byteTo x b')) := by
                  refine ⟨b + 1, sa, cap, by have := hb8.out; omega, by go_num, ?_, ?_, hG5⟩
                  · rw [hy1.out]; simp
                  · rw [hcat.out]; simp
                replace hrel := Lib.hid hrel
                clear own2 only2 fresh2 hG4 hG5 hGb
                go_wp2_with fail
                go_roundw
                case rel => rw [hwb.out]; exact hrel.out
                case measure => have := hb8.out; rw [hwb.out]; simp [intOf]; omega
              · obtain rfl : b = 8 := by omega
                have hG6 : Grow w wr 5 ab (bytesL (pre ++ ws.take (m + 1))).length cb (u8s (bytesL (pre ++ ws.take (m + 1)))) := by
                  rw [htm.out, bytesL_snoc, hBB.out]; exact hGb
                have hsl : Value.slice ab (B ++ byteTo x 8).length cb = .slice ab (bytesL (pre ++ ws.take (m + 1))).length cb := by rw [htm.out, bytesL_snoc, hBB.out]
                replace hsl := Lib.hid hsl
                replace hG6 := Lib.hid hG6
                clear hGb
                go_wp2_with fail
                go_roundw
                case rel => rw [hwm.out]; exact ⟨m + 1, ab, cb, by have := hm8.out; omega, by go_num, hsl.out, hG6.out⟩
                case measure => have := hm8.out; rw [hwm.out]; simp [intOf]; omega
          · obtain rfl : m = 8 := by omega
            have ht8 : ws.take 8 = ws := by rw [← hwl.out, List.take_length]
            rw [ht8, ← hsucc.out] at hGm
            have hsl : Value.slice am (bytesL (pre ++ ws.take 8)).length cm = .slice am (bytesL (conTo R ks (k + 1))).length cm := by rw [ht8, ← hsucc.out]
            have hn' := hnext.out
            have hrel : ∃ (k' : Nat) (a : Option Addr) (c : Nat), k' ≤ R.lines.length ∧ Value.int .i64 ((k : Int) + 1) = .int .i64 k' ∧ Value.int .i64 ((dn : Int)) = .int .i64 ((dirtyTo R k').length : Nat) ∧ Value.slice am (bytesL (pre ++ ws.take 8)).length cm = .slice a (bytesL (conTo R ks k')).length c ∧ Grow w wr 5 a (bytesL (conTo R ks k')).length c (u8s (bytesL (conTo R ks k'))) := by
              refine ⟨k + 1, am, cm, by omega, by go_num, ?_, hsl, hGm⟩
              rw [hn', if_neg e1]
            replace hrel := Lib.hid hrel
            replace hsl := Lib.hid hsl
            replace ht8 := Lib.hid ht8
            replace hn' := Lib.hid hn'
            clear hGm
            go_wp2_with fail
            go_roundw
            case rel => exact hrel.out
            case measure => simp [intOf]; omega
      case inr.inl =>
        have e1I : (0 : Int) < ((l.hist.length : Nat) : Int) := by omega
        have e2I : ¬ (dn : Int) < ((ks.length : Nat) : Int) := by omega
        replace hkq := Lib.hid hkq
        replace hksr := Lib.hid hksr
        go_wp2_with fail
        refine (hwd.out 0 (by rw [hkq.out]; rfl) _ hBa.out).mono ?_
        rintro e w1 ⟨rfl, hBw⟩
        have hG3 := hG2.out.below hBw
        replace hG3 := Lib.hid hG3
        clear hBw c0 c1 c2 c3 c4 c5 c6 c7 c8 c9 b0 b1 b2 b3 b4 b5 b6 b7 b8 b9 hwd hBa hksr hG
        go_wp2_with fail
        go_loopw [5, 40] (fun v j wr => ∃ (m : Nat) (a : Option Addr) (c : Nat), m ≤ 8 ∧ j = .int .i64 m ∧ v = .slice a (bytesL (pre ++ ws.take m)).length c ∧ Grow w wr 5 a (bytesL (pre ++ ws.take m)).length c (u8s (bytesL (pre ++ ws.take m)))) (fun _ j _ => 8 - (intOf j).toNat)
        case atStart => exact ⟨0, _, cc, by omega, rfl, by simp, hG3.out⟩
        case round =>
          obtain ⟨m, am, cm, hm, rfl, rfl, hGm⟩ := hrel
          by_cases hm8 : m < 8
          · have em : decide ((m : Int) < 8) = true := by simp; omega
            have hm0 : (0 : Int) ≤ (m : Int) := by omega
            have hix := fun w => index_aggI ws m hm8 w
            have hx64 : wat ws m < 18446744073709551616 := hwlt _ (List.mem_of_getElem? (get_of_lt 0 (by rw [hwl.out]; exact hm8)))
            have htm := htk.out m (by rw [hwl.out]; exact hm8)
            have hlen : (bytesL (pre ++ ws.take m)).length ≤ 300000 := by
              rw [bytesL_len, List.length_append, List.length_take, hL.out]; omega
            have hwm : wrap64 ((m : Int) + 1) = (m : Int) + 1 := (by unfold wrap64; omega)
            have hGm0 : Grow w wr 5 am (bytesL (pre ++ ws.take m) ++ byteTo (wat ws m) 0).length cm (u8s (bytesL (pre ++ ws.take m) ++ byteTo (wat ws m) 0)) := by simpa [byteTo] using hGm
            replace htm := Lib.hid htm
            generalize hxx : wat ws m = x at *
            generalize hBB : bytesL (pre ++ ws.take m) = B at *
            replace hxx := Lib.hid hxx
            replace hBB := Lib.hid hBB
            replace hGm0 := Lib.hid hGm0
            replace hm8 := Lib.hid hm8
            replace hm := Lib.hid hm
            replace hwm := Lib.hid hwm
            clear hGm
            go_wp2_with fail
            go_loopw [5, 11, 12] (fun v wv b wr => ∃ (b' : Nat) (a : Option Addr) (c : Nat), b' ≤ 8 ∧ b = .int .i64 b' ∧ wv = .int .u64 ((x / 256 ^ b' : Nat) : Int) ∧ v = .slice a (B ++ byteTo x b').length c ∧ Grow w wr 5 a (B ++ byteTo x b').length c (u8s (B ++ byteTo x b'))) (fun _ _ b _ => 8 - (intOf b).toNat)
            case atStart => exact ⟨0, am, cm, by omega, rfl, by simp, by simp [byteTo], hGm0.out⟩
            case round =>
              clear hix
              obtain ⟨b, ab, cb, hb, rfl, rfl, rfl, hGb⟩ := hrel
              by_cases hb8 : b < 8
              · have eb : decide ((b : Int) < 8) = true := by simp; omega
                have hb0 : (0 : Int) ≤ (b : Int) := by omega
                have hy1 : x / 256 ^ (b + 1) = x / 256 ^ b / 256 := by rw [Nat.pow_succ, Nat.div_div_eq_div_mul]
                have hy64 : x / 256 ^ b < 18446744073709551616 := Nat.lt_of_le_of_lt (Nat.div_le_self _ _) hx64
                have hbs := byteTo_succ x b
                have hBl : (B ++ byteTo x b).length ≤ 300008 := by rw [List.length_append, byteTo_len]; omega
                have hcat : B ++ byteTo x (b + 1) = (B ++ byteTo x b) ++ [x / 256 ^ b % 256] := by rw [hbs, List.append_assoc]
                generalize hXX : B ++ byteTo x b = X at *
                generalize hyy : x / 256 ^ b = y at *
                have hyI : (y : Int) < 18446744073709551616 := by omega
                have hby : (X.length + 1) * 1 ≤ 140737488355328 := by omega
                have hwb : wrap64 ((b : Int) + 1) = (b : Int) + 1 := (by unfold wrap64; omega)
                replace hy1 := Lib.hid hy1
                replace hbs := Lib.hid hbs
                replace hcat := Lib.hid hcat
                replace hXX := Lib.hid hXX
                replace hyy := Lib.hid hyy
                replace hb8 := Lib.hid hb8
                replace hb := Lib.hid hb
                replace hwb := Lib.hid hwb
                go_wp2_with (at_builtin; go_loud (refine wpList_app1 rfl (.tmp 47) (.tmp 50) 31 rfl 5 (.int .u8 0) 1 Try.underlying31 infoU8 rfl (by decide) ab X.length cb (u8s X) rfl (.int .u8 ((y : Int) % 256)) _ _ rfl rfl hGb.own _ rfl rfl (by simp [Value.oneCell']) hby ?_); intro sa cap w2 own2 only2 fresh2)
                have hG4 := hGb.app own2 only2 fresh2
                have hG5 : Grow w w2 5 sa (B ++ byteTo x (b + 1)).length cap (u8s (B ++ byteTo x (b + 1))) := by
                  rw [hcat.out, u8s_snoc]; simpa using hG4
                have hrel : ∃ (b' : Nat) (a : Option Addr) (c : Nat), b' ≤ 8 ∧ Value.int .i64 ((b : Int) + 1) = .int .i64 b' ∧ Value.int .u64 ((y : Int) / 256) = .int .u64 ((x / 256 ^ b' : Nat) : Int) ∧ Value.slice sa (X.length + 1) cap = .slice a (B ++ byteTo x b').length c ∧ Grow w w2 5 a (B ++ byteTo x b').length c (u8s (B ++ byteTo x b')) := by
                  refine ⟨b + 1, sa, cap, by have := hb8.out; omega, by go_num, ?_, ?_, hG5⟩
                  · rw [hy1.out]; simp
                  · rw [hcat.out]; simp
                replace hrel := Lib.hid hrel
                clear own2 only2 fresh2 hG4 hG5 hGb
                go_wp2_with fail
                go_roundw
                case rel => rw [hwb.out]; exact hrel.out
                case measure => have := hb8.out; rw [hwb.out]; simp [intOf]; omega
              · obtain rfl : b = 8 := by omega
                have hG6 : Grow w wr 5 ab (bytesL (pre ++ ws.take (m + 1))).length cb (u8s (bytesL (pre ++ ws.take (m + 1)))) := by
                  rw [htm.out, bytesL_snoc, hBB.out]; exact hGb
                have hsl : Value.slice ab (B ++ byteTo x 8).length cb = .slice ab (bytesL (pre ++ ws.take (m + 1))).length cb := by rw [htm.out, bytesL_snoc, hBB.out]
                replace hsl := Lib.hid hsl
                replace hG6 := Lib.hid hG6
                clear hGb
                go_wp2_with fail
                go_roundw
                case rel => rw [hwm.out]; exact ⟨m + 1, ab, cb, by have := hm8.out; omega, by go_num, hsl.out, hG6.out⟩
                case measure => have := hm8.out; rw [hwm.out]; simp [intOf]; omega
          · obtain rfl : m = 8 := by omega
            have ht8 : ws.take 8 = ws := by rw [← hwl.out, List.take_length]
            rw [ht8, ← hsucc.out] at hGm
            have hsl : Value.slice am (bytesL (pre ++ ws.take 8)).length cm = .slice am (bytesL (conTo R ks (k + 1))).length cm := by rw [ht8, ← hsucc.out]
            have hn' := hnext.out
            have hrel : ∃ (k' : Nat) (a : Option Addr) (c : Nat), k' ≤ R.lines.length ∧ Value.int .i64 ((k : Int) + 1) = .int .i64 k' ∧ Value.int .i64 ((dn : Int) + 1) = .int .i64 ((dirtyTo R k').length : Nat) ∧ Value.slice am (bytesL (pre ++ ws.take 8)).length cm = .slice a (bytesL (conTo R ks k')).length c ∧ Grow w wr 5 a (bytesL (conTo R ks k')).length c (u8s (bytesL (conTo R ks k'))) := by
              refine ⟨k + 1, am, cm, by omega, by go_num, ?_, hsl, hGm⟩
              rw [hn', if_pos e1]; simp
            replace hrel := Lib.hid hrel
            replace hsl := Lib.hid hsl
            replace ht8 := Lib.hid ht8
            replace hn' := Lib.hid hn'
            clear hGm
            go_wp2_with fail
            go_roundw
            case rel => exact hrel.out
            case measure => simp [intOf]; omega
      case inr.inr =>
        have e1I : (0 : Int) < ((l.hist.length : Nat) : Int) := by omega
        have e2I : (dn : Int) < ((ks.length : Nat) : Int) := by omega
        have e20 : (0 : Int) ≤ (dn : Int) := by omega
        obtain ⟨bl, ol, cl, ea, fa⟩ := hksr.cells (by omega)
        simp only [Value.slice.injEq, true_and] at ea
        obtain ⟨rfl, hcap⟩ := ea
        replace hcap := Lib.hid hcap
        have ck : World.cell? _ ⟨bl, ol + dn, none⟩ = _ := fa _ _ (nats_get ks dn (wat ks dn) (get_of_lt 0 e2))
        clear fa
        replace hkq := Lib.hid hkq
        generalize wat ks dn = kq at *
        replace hksr := Lib.hid hksr
        go_wp2_with fail
        refine (hwd.out _ (by rw [hkq.out]) _ hBa.out).mono ?_
        rintro e w1 ⟨rfl, hBw⟩
        have hG3 := hG2.out.below hBw
        replace hG3 := Lib.hid hG3
        clear hBw c0 c1 c2 c3 c4 c5 c6 c7 c8 c9 b0 b1 b2 b3 b4 b5 b6 b7 b8 b9 hwd hBa hksr hG
        go_wp2_with fail
        go_loopw [5, 40] (fun v j wr => ∃ (m : Nat) (a : Option Addr) (c : Nat), m ≤ 8 ∧ j = .int .i64 m ∧ v = .slice a (bytesL (pre ++ ws.take m)).length c ∧ Grow w wr 5 a (bytesL (pre ++ ws.take m)).length c (u8s (bytesL (pre ++ ws.take m)))) (fun _ j _ => 8 - (intOf j).toNat)
        case atStart => exact ⟨0, _, cc, by omega, rfl, by simp, hG3.out⟩
        case round =>
          obtain ⟨m, am, cm, hm, rfl, rfl, hGm⟩ := hrel
          by_cases hm8 : m < 8
          · have em : decide ((m : Int) < 8) = true := by simp; omega
            have hm0 : (0 : Int) ≤ (m : Int) := by omega
            have hix := fun w => index_aggI ws m hm8 w
            have hx64 : wat ws m < 18446744073709551616 := hwlt _ (List.mem_of_getElem? (get_of_lt 0 (by rw [hwl.out]; exact hm8)))
            have htm := htk.out m (by rw [hwl.out]; exact hm8)
            have hlen : (bytesL (pre ++ ws.take m)).length ≤ 300000 := by
              rw [bytesL_len, List.length_append, List.length_take, hL.out]; omega
            have hwm : wrap64 ((m : Int) + 1) = (m : Int) + 1 := (by unfold wrap64; omega)
            have hGm0 : Grow w wr 5 am (bytesL (pre ++ ws.take m) ++ byteTo (wat ws m) 0).length cm (u8s (bytesL (pre ++ ws.take m) ++ byteTo (wat ws m) 0)) := by simpa [byteTo] using hGm
            replace htm := Lib.hid htm
            generalize hxx : wat ws m = x at *
            generalize hBB : bytesL (pre ++ ws.take m) = B at *
            replace hxx := Lib.hid hxx
            replace hBB := Lib.hid hBB
            replace hGm0 := Lib.hid hGm0
            replace hm8 := Lib.hid hm8
            replace hm := Lib.hid hm
            replace hwm := Lib.hid hwm
            clear hGm
            go_wp2_with fail
            go_loopw [5, 11, 12] (fun v wv b wr => ∃ (b' : Nat) (a : Option Addr) (c : Nat), b' ≤ 8 ∧ b = .int .i64 b' ∧ wv = .int .u64 ((x / 256 ^ b' : Nat) : Int) ∧ v = .slice a (B ++ byteTo x b').length c ∧ Grow w wr 5 a (B ++ byteTo x b').length c (u8s (B ++ byteTo x b'))) (fun _ _ b _ => 8 - (intOf b).toNat)
            case atStart => exact ⟨0, am, cm, by omega, rfl, by simp, by simp [byteTo], hGm0.out⟩
            case round =>
              clear hix
              obtain ⟨b, ab, cb, hb, rfl, rfl, rfl, hGb⟩ := hrel
              by_cases hb8 : b < 8
              · have eb : decide ((b : Int) < 8) = true := by simp; omega
                have hb0 : (0 : Int) ≤ (b : Int) := by omega
                have hy1 : x / 256 ^ (b + 1) = x / 256 ^ b / 256 := by rw [Nat.pow_succ, Nat.div_div_eq_div_mul]
                have hy64 : x / 256 ^ b < 18446744073709551616 := Nat.lt_of_le_of_lt (Nat.div_le_self _ _) hx64
                have hbs := byteTo_succ x b
                have hBl : (B ++ byteTo x b).length ≤ 300008 := by rw [List.length_append, byteTo_len]; omega
                have hcat : B ++ byteTo x (b + 1) = (B ++ byteTo x b) ++ [x / 256 ^ b % 256] := by rw [hbs, List.append_assoc]
                generalize hXX : B ++ byteTo x b = X at *
                generalize hyy : x / 256 ^ b = y at *
                have hyI : (y : Int) < 18446744073709551616 := by omega
                have hby : (X.length + 1) * 1 ≤ 140737488355328 := by omega
                have hwb : wrap64 ((b : Int) + 1) = (b : Int) + 1 := (by unfold wrap64; omega)
                replace hy1 := Lib.hid hy1
                replace hbs := Lib.hid hbs
                replace hcat := Lib.hid hcat
                replace hXX := Lib.hid hXX
                replace hyy := Lib.hid hyy
                replace hb8 := Lib.hid hb8
                replace hb := Lib.hid hb
                replace hwb := Lib.hid hwb
                go_wp2_with (at_builtin; go_loud (refine wpList_app1 rfl (.tmp 47) (.tmp 50) 31 rfl 5 (.int .u8 0) 1 Try.underlying31 infoU8 rfl (by decide) ab X.length cb (u8s X) rfl (.int .u8 ((y : Int) % 256)) _ _ rfl rfl hGb.own _ rfl rfl (by simp [Value.oneCell']) hby ?_); intro sa cap w2 own2 only2 fresh2)
                have hG4 := hGb.app own2 only2 fresh2
                have hG5 : Grow w w2 5 sa (B ++ byteTo x (b + 1)).length cap (u8s (B ++ byteTo x (b + 1))) := by
                  rw [hcat.out, u8s_snoc]; simpa using hG4
                have hrel : ∃ (b' : Nat) (a : Option Addr) (c : Nat), b' ≤ 8 ∧ Value.int .i64 ((b : Int) + 1) = .int .i64 b' ∧ Value.int .u64 ((y : Int) / 256) = .int .u64 ((x / 256 ^ b' : Nat) : Int) ∧ Value.slice sa (X.length + 1) cap = .slice a (B ++ byteTo x b').length c ∧ Grow w w2 5 a (B ++ byteTo x b').length c (u8s (B ++ byteTo x b')) := by
                  refine ⟨b + 1, sa, cap, by have := hb8.out; omega, by go_num, ?_, ?_, hG5⟩
                  · rw [hy1.out]; simp
                  · rw [hcat.out]; simp
                replace hrel := Lib.hid hrel
                clear own2 only2 fresh2 hG4 hG5 hGb
                go_wp2_with fail
                go_roundw
                case rel => rw [hwb.out]; exact hrel.out
                case measure => have := hb8.out; rw [hwb.out]; simp [intOf]; omega
              · obtain rfl : b = 8 := by omega
                have hG6 : Grow w wr 5 ab (bytesL (pre ++ ws.take (m + 1))).length cb (u8s (bytesL (pre ++ ws.take (m + 1)))) := by
                  rw [htm.out, bytesL_snoc, hBB.out]; exact hGb
                have hsl : Value.slice ab (B ++ byteTo x 8).length cb = .slice ab (bytesL (pre ++ ws.take (m + 1))).length cb := by rw [htm.out, bytesL_snoc, hBB.out]
                replace hsl := Lib.hid hsl
                replace hG6 := Lib.hid hG6
                clear hGb
                go_wp2_with fail
                go_roundw
                case rel => rw [hwm.out]; exact ⟨m + 1, ab, cb, by have := hm8.out; omega, by go_num, hsl.out, hG6.out⟩
                case measure => have := hm8.out; rw [hwm.out]; simp [intOf]; omega
          · obtain rfl : m = 8 := by omega
            have ht8 : ws.take 8 = ws := by rw [← hwl.out, List.take_length]
            rw [ht8, ← hsucc.out] at hGm
            have hsl : Value.slice am (bytesL (pre ++ ws.take 8)).length cm = .slice am (bytesL (conTo R ks (k + 1))).length cm := by rw [ht8, ← hsucc.out]
            have hn' := hnext.out
            have hrel : ∃ (k' : Nat) (a : Option Addr) (c : Nat), k' ≤ R.lines.length ∧ Value.int .i64 ((k : Int) + 1) = .int .i64 k' ∧ Value.int .i64 ((dn : Int) + 1) = .int .i64 ((dirtyTo R k').length : Nat) ∧ Value.slice am (bytesL (pre ++ ws.take 8)).length cm = .slice a (bytesL (conTo R ks k')).length c ∧ Grow w wr 5 a (bytesL (conTo R ks k')).length c (u8s (bytesL (conTo R ks k'))) := by
              refine ⟨k + 1, am, cm, by omega, by go_num, ?_, hsl, hGm⟩
              rw [hn', if_pos e1]; simp
            replace hrel := Lib.hid hrel
            replace hsl := Lib.hid hsl
            replace ht8 := Lib.hid ht8
            replace hn' := Lib.hid hn'
            clear hGm
            go_wp2_with fail
            go_roundw
            case rel => exact hrel.out
            case measure => simp [intOf]; omega
    · obtain rfl : k = R.lines.length := by omega
      have hx : post (.returned (.slice a (bytesL (conTo R ks R.lines.length)).length cc)) wr := by rw [← hpost.out, ← hall.out]; exact ⟨a, cc, rfl, hG⟩
      replace hx := Lib.hid hx
      clear hG
      go_wp2_with fail
      exact hx.out
end Go.Proofs.Ytikjpklbbjmioaa

/-! The reference's device: New, Current. -/
namespace Go.Proofs.Ytikjpklbbjmioaa
open Go.RowKit Go.Maps
variable {w : World} {F : Own} {o h T : Nat} {R : Dv}

theorem infoRLn : (Try.prog.info? 122).map (fun i => (i.zero, i.size, i.bytes)) = some (some (.agg #[.int .u64 0, .int .u64 0, .int .u64 0, .int .u64 0, .int .u64 0, .int .u64 0, .int .u64 0, .int .u64 0, .slice none 0 0, .int .i64 0]), 10, 96) := by kernel_rfl
def zeroLn : Array Value := #[.int .u64 0, .int .u64 0, .int .u64 0, .int .u64 0, .int .u64 0, .int .u64 0, .int .u64 0, .int .u64 0, .slice none 0 0, .int .i64 0]
def RNewPost (w : World) (F : Own) (o : Nat) (R : Dv) (e : Ending) (w' : World) : Prop :=
  ∃ h F', e = .returned (.pointer (some ⟨h, 0, none⟩)) ∧ RefSt w' F' o h 0 R ∧ Ext w F F' ∧ Below w.heap.size w w'
theorem zero_lines (w : World) (F : Own) (o n : Nat) (h1 : 1 ≤ n) (h2 : n ≤ 4096) : RLinSt (w.alloc (.cells (madeCells zeroLn (n * 10)) 122)) (F.put w.heap.size (o, 1, 0)) o w.heap.size n (newP n) := by
  have hll : (newP n).lines.length = n := by simp [newP]
  have hg : ∀ k, k < n * 10 → (madeCells zeroLn (n * 10)).toList[k]? = some (zeroLn[k % 10]!) := fun k hk => madeCells_get zeroLn (n * 10) k hk
  refine ⟨(madeCells zeroLn (n * 10)).toList, fun _ => .slice none 0 0, ?_, ?_⟩
  · rw [hll]
    refine ⟨by rw [madeCells_len], .inr ⟨w.heap.size, n, _, rfl, Nat.zero_le _, heap_alloc_new, Nat.le_refl _, by unfold maxLen; omega, by rw [← Array.length_toList, madeCells_len], ?_⟩⟩
    rw [List.take_of_length_le (by rw [madeCells_len]; omega)]
  · intro i hi
    rw [hll] at hi
    rw [newP_line n i hi]
    refine ⟨?_, ?_, ?_, Rd.nil _, fun hc => absurd rfl hc, ?_⟩
    · intro j hj
      rw [hg _ (by omega), show (i * 10 + j) % 10 = j from by omega]
      match j, hj with
      | 0, _ | 1, _ | 2, _ | 3, _ | 4, _ | 5, _ | 6, _ | 7, _ => rfl
    · rw [hg _ (by omega), show (i * 10 + 8) % 10 = 8 from by omega]; rfl
    · rw [hg _ (by omega), show (i * 10 + 9) % 10 = 9 from by omega]; rfl
    · intro a m c e; cases e; exact ⟨Nat.le_refl _, fun _ => rfl⟩
set_option maxHeartbeats 2000000 in
set_option maxRecDepth 100000 in
theorem rnew_any (w : World) (F : Own) (o n : Nat) (h1 : 1 ≤ n) (h2 : n ≤ 4096) : Calls Try.prog 18 #[.int .i64 (n : Int)] w (RNewPost w F o (newP n)) := by
  generalize hpost : RNewPost w F o (newP n) = post
  have hmk := makeN (P := Try.prog) 105 122 (.agg zeroLn) zeroLn 10 96 Try.underlying105 infoRLn rfl n (by omega) (by omega) w
  have hfin : post (.returned (.pointer (some ⟨w.heap.size + 1, 0, none⟩))) ((w.alloc (.cells (madeCells zeroLn (n * 10)) 122)).alloc (.cells (refCells w.heap.size n (fun _ => .slice none 0 0) (newP n)).toArray 110)) := by
    rw [← hpost]
    have z := zero_lines w F o n h1 h2
    have hne : (F.put w.heap.size (o, 1, 0)).put (w.heap.size + 1) (o, 0, 0) w.heap.size = some (o, 1, 0) := by rw [Own.put_ne _ _ (by omega), Own.put_at]
    have hx : Ext (w.alloc (.cells (madeCells zeroLn (n * 10)) 122)) (F.put w.heap.size (o, 1, 0)) ((F.put w.heap.size (o, 1, 0)).put (w.heap.size + 1) (o, 0, 0)) := (Ext.refl _ _).put (by simp) _
    refine ⟨w.heap.size + 1, (F.put w.heap.size (o, 1, 0)).put (w.heap.size + 1) (o, 0, 0), rfl, ⟨newP_ok n h1 h2, ⟨w.heap.size, n, fun _ => .slice none 0 0, ?_, ?_, hne, ?_⟩, Own.put_at _ _ _⟩, ((Ext.refl w F).put (Nat.le_refl _) _).put (by omega) _, ((Below.refl w.heap.size w).alloc (Nat.le_refl _) _).alloc (by simp) _⟩
    · have := Has.newA (w.alloc (.cells (madeCells zeroLn (n * 10)) 122)) (refCells w.heap.size n (fun _ => .slice none 0 0) (newP n)).toArray 110
      simpa using this
    · exact z.kept (Own.put_at _ _ _) ((Only.refl (fun _ => False) _).alloc _) hx (fun _ s => s.elim)
    · intro t ht
      rw [show (newP n).notes.getD t [] = [] from rep_getD 8 t [] [] ht]
      exact ⟨Rd.nil _, fun hc => absurd rfl hc, fun a m c e => by cases e; exact ⟨Nat.le_refl _, fun _ => rfl⟩⟩
  have hrc : (refCells w.heap.size n (fun _ => .slice none 0 0) (newP n)).toArray = #[.slice (some ⟨w.heap.size, 0, none⟩) n n, .slice none 0 0, .slice none 0 0, .slice none 0 0, .slice none 0 0, .slice none 0 0, .slice none 0 0, .slice none 0 0, .slice none 0 0,
      .int .i64 0, .int .i64 0, .int .i64 0, .int .i64 0, .int .i64 0, .int .i64 0, .int .i64 0, .int .i64 0, .int .i64 (-1), .bool false, .int .u64 0] := by
    simp [refCells, newP]
  rw [hrc] at hfin
  replace hfin := Lib.hid hfin
  replace hrc := Lib.hid hrc
  clear hpost
  go_enter Try.func18, Try.ntmps18
  go_wp2_with fail
  exact hfin.out

theorem curK_take (R : Dv) (j n : Nat) (h : (dirtyL R)[j]? = some n) : (curK R).take (j + 1) = (curK R).take j ++ [(R.line n).hist.length] := by
  unfold curK; rw [List.take_add_one, List.getElem?_map, h]; rfl
theorem curK_len (R : Dv) : (curK R).length = (dirtyL R).length := by simp [curK]
theorem kOf_curLe (R : Dv) (l : Nat) (hl : l < R.lines.length) : kOf R (curK R) l ≤ (R.line l).hist.length := by
  by_cases hc : 0 < (R.line l).hist.length
  · have h1 := dirty_lt hl hc
    have h2 := dirty_place hl hc
    unfold kOf
    rw [if_pos hc, curK_len, if_pos h1]
    unfold curK
    rw [getD_of 0 (by rw [List.getElem?_map, h2]; rfl)]
    exact Nat.le_refl _
  · unfold kOf; rw [if_neg hc]; omega
theorem NewBytes.up {w w1 : World} {xs : List Nat} {e : Ending} {w' : World} (hp : NewBytes w1 xs e w') (hb : Below w.heap.size w w1) : NewBytes w xs e w' := by
  obtain ⟨a, c, h1, h2⟩ := hp
  exact ⟨a, c, h1, h2.own, hb.trans (h2.b.mono hb.size), fun j hj => Nat.le_trans hb.size (h2.fr j hj)⟩
set_option maxHeartbeats 4000000 in
set_option maxRecDepth 100000 in
theorem rcurrent_any (hr : RefSt w F o h T R) : Calls Try.prog 66 #[.pointer (some ⟨h, 0, none⟩)] w (NewBytes w (bytesL R.curW)) := by
  generalize hpost : NewBytes w (bytesL R.curW) = post
  have hn2 := hr.ok.n2
  have hA := hr.alloc (.cells #[] 3)
  have hB0 := (Below.refl w.heap.size w).alloc (Nat.le_refl _) (.cells #[] 3)
  have hd := Lib.hid (rdirty_any hA)
  have hdl : (dirtyL R).length ≤ R.lines.length := dirtyTo_len R R.lines.length
  have hG0 := Grow.empty w 3
  have hcon : ∀ (w1 : World) (a : Option Addr) (c : Nat), Grow w w1 3 a (curK R).length c (nats (curK R)) → Calls Try.prog 55 #[.pointer (some ⟨h, 0, none⟩), .slice a (curK R).length c] w1 (fun e w' => ∃ v, e = .returned v ∧ post (.returned v) w') := by
    intro w1 a c hG
    have := rcontent_any (hr.below hG.b) a c (curK R) (Rd.of_own hG.own) (fun l hl => kOf_curLe R l hl) (by rw [curK_len]; omega)
    rw [kOf_cur] at this
    refine this.mono ?_
    intro e w' hp
    obtain ⟨b, c, rfl, hq⟩ := hp.up hG.b
    exact ⟨_, rfl, by rw [← hpost]; exact ⟨b, c, rfl, hq⟩⟩
  obtain ⟨lb, lc, ns, h1, h2, h3, _⟩ := hr.ex
  have hlb : lb < w.heap.size := by obtain ⟨cs, _, x, _⟩ := h2; exact ownsRow_lt x (k := lb) rfl
  have c := h1.cell (refCells_lines lb lc ns R)
  have hlt1 := h1.lt
  have hlines := fun (i : Nat) (hi : i < R.lines.length) => h2.cells hi
  have hkt := curK_take R
  have hkl := curK_len R
  replace hcon := Lib.hid hcon
  replace hkt := Lib.hid hkt
  replace hkl := Lib.hid hkl
  clear hpost hr hA h2
  go_enter Try.func66, Try.ntmps66
  go_wp2_with fail
  refine hd.out.mono ?_
  rintro e w1 ⟨da, dc, rfl, hown, hB1, hfr⟩
  have hG1 := hG0.below hB1
  have hrd := Rd.of_own hown
  have hs1 := hG1.b.size
  have hdmem := fun (j n : Nat) (hj : (dirtyL R)[j]? = some n) => dirtyTo_mem (List.mem_of_getElem? hj)
  replace hdmem := Lib.hid hdmem
  replace hG1 := Lib.hid hG1
  have hdis0 : ∀ q, Value.ownBlock (.slice (some ⟨w.heap.size, 0, none⟩) ((curK R).take 0).length 0) = some q → ∀ q', Value.ownBlock (.slice da (dirtyL R).length dc) = some q' → q ≠ q' := by
    intro q hq q' hq' e
    have := hfr q' hq'
    simp only [World.size_alloc] at this
    simp only [Value.ownBlock, Option.some.injEq] at hq
    omega
  have hdlt : ∀ q', Value.ownBlock (.slice da (dirtyL R).length dc) = some q' → q' < w1.heap.size := fun q' hq' => ownsRow_lt hown hq'
  replace hB1 := Lib.hid hB1
  replace hdis0 := Lib.hid hdis0
  replace hdlt := Lib.hid hdlt
  clear hown hfr hd
  go_wp2_with fail
  go_loopw [3, 10] (fun v i wr => ∃ (j : Nat) (a : Option Addr) (c : Nat), j ≤ (dirtyL R).length ∧ i = .int .i64 j ∧ v = .slice a ((curK R).take j).length c ∧ Grow w wr 3 a ((curK R).take j).length c (nats ((curK R).take j)) ∧ Rd wr (.slice da (dirtyL R).length dc) (dirtyL R).length (nats (dirtyL R)) ∧ w1.heap.size ≤ wr.heap.size ∧ ∀ q, Value.ownBlock (.slice a ((curK R).take j).length c) = some q → ∀ q', Value.ownBlock (.slice da (dirtyL R).length dc) = some q' → q ≠ q') (fun _ i _ => (dirtyL R).length - (intOf i).toNat)
  case atStart => exact ⟨0, _, 0, Nat.zero_le _, rfl, rfl, hG1.out, hrd, Nat.le_refl _, hdis0.out⟩
  case round =>
    clear hrd
    replace c := Lib.hid c
    obtain ⟨j, a, cc, hj, rfl, rfl, hG, hrd, hsz, hdis⟩ := hrel
    replace hdis := Lib.hid hdis
    by_cases hlt : j < (dirtyL R).length
    · have hjI : (j : Int) < ((dirtyL R).length : Int) := by omega
      have hj0 : (0 : Int) ≤ (j : Int) := by omega
      have hat := get_of_lt 0 hlt
      obtain ⟨bl, ol, cl, ea, fa⟩ := hrd.cells (by omega)
      simp only [Value.slice.injEq, true_and] at ea
      obtain ⟨rfl, hcap⟩ := ea
      replace hcap := Lib.hid hcap
      have ck : wr.cell? ⟨bl, ol + j, none⟩ = _ := fa _ _ (nats_get (dirtyL R) j _ hat)
      have htk := hkt.out j _ hat
      obtain ⟨hn, hnp⟩ := hdmem.out j _ hat
      generalize (dirtyL R).getD j 0 = n at *
      obtain ⟨va, vc, hlc, _⟩ := hlines n hn
      obtain ⟨c0, c1, c2, c3, c4, c5, c6, c7, c8, c9⟩ := hlc.only (Only.of_below hG.b) (Nat.not_le.2 hlb)
      have cL := (Only.of_below hG.b).cell c.out (Nat.not_le.2 hlt1)
      have hnI : (n : Int) < (R.lines.length : Int) := by omega
      have hn0 : (0 : Int) ≤ (n : Int) := by omega
      have hll : (R.line n).hist.length = (R.line n).hist.length := rfl
      generalize (R.line n).hist.length = hl at *
      replace htk := Lib.hid htk
      have hlen : ((curK R).take j).length ≤ 4096 := by rw [List.length_take, hkl.out]; omega
      generalize hX : (curK R).take j = X at *
      replace hX := Lib.hid hX
      replace hll := Lib.hid hll
      have hby : (X.length + 1) * 8 ≤ 140737488355328 := by omega
      clear hlc
      go_wp2_with (at_builtin; go_loud (refine wpList_app1 rfl (.tmp 14) (.tmp 24) 65 rfl 3 (.int .i64 0) 8 Try.underlying65 infoInt rfl (by decide) a X.length cc (nats X) rfl (.int .i64 (hl : Int)) _ _ rfl rfl hG.own _ rfl rfl (by simp [Value.oneCell']) hby ?_); intro sa cap w2 own2 only2 fresh2)
      have hG2 := hG.app own2 only2 fresh2
      have hrel : ∃ (j' : Nat) (a' : Option Addr) (c' : Nat), j' ≤ (dirtyL R).length ∧ Value.int .i64 ((j : Int) + 1) = .int .i64 j' ∧ Value.slice sa (X.length + 1) cap = .slice a' ((curK R).take j').length c' ∧ Grow w w2 3 a' ((curK R).take j').length c' (nats ((curK R).take j')) ∧ Rd w2 (.slice (some ⟨bl, ol, none⟩) (dirtyL R).length dc) (dirtyL R).length (nats (dirtyL R)) ∧
          w1.heap.size ≤ w2.heap.size ∧ ∀ q, Value.ownBlock (.slice a' ((curK R).take j').length c') = some q → ∀ q', Value.ownBlock (.slice (some ⟨bl, ol, none⟩) (dirtyL R).length dc) = some q' → q ≠ q' := by
        refine ⟨j + 1, sa, cap, by omega, by go_num, ?_, ?_, ?_, Nat.le_trans hsz only2.size, ?_⟩
        · rw [htk.out]; simp
        · rw [htk.out, nats_snoc]; simpa using hG2
        · exact hrd.only only2 (fun q' hq' s => hdis.out q' s q' hq' rfl)
        · rw [htk.out]
          intro q hq q' hq' e
          simp only [List.length_append, List.length_singleton] at hq
          rcases fresh2 q hq with h5 | h5
          · exact hdis.out q h5 q' hq' e
          · have h6 := hdlt.out q' hq'
            omega
      replace hrel := Lib.hid hrel
      refine ⟨hrel.out, ?_⟩
      simp [intOf]; omega
    · obtain rfl : j = (dirtyL R).length := by omega
      have hta : (curK R).take (dirtyL R).length = curK R := by rw [← hkl.out, List.take_length]
      rw [hta] at hG
      have hx := hcon.out wr a cc hG
      rw [← hta] at hx
      generalize (curK R).take (dirtyL R).length = X at *
      replace hx := Lib.hid hx
      clear hta hG hrd hdis hkt hkl hcon hdmem hdis0 hdlt hlines hG1 hG0
      go_wp2_with fail
      refine hx.out.mono ?_
      rintro e w' ⟨v, rfl, hp⟩
      replace hp := Lib.hid hp
      go_wp2_with fail
      exact hp.out
end Go.Proofs.Ytikjpklbbjmioaa
