/- The program's device: of, New. -/
import Derived.Test.YtdminbjenbbpaaaD15
import Derived.Deep.RegionWith
import Derived.IntWalk
import Derived.Deep.DeepCutAuto
import Derived.Deep.RegionHeld3
namespace Go.Proofs.Ytdminbjenbbpaaa
open Go.RowKit Go.Maps
variable {w : World} {F : Own} {o T : Nat} {L : Lay} {R : Dv}

theorem infoLin : (Try.prog.info? 101).map (fun i => (i.zero, i.size, i.bytes)) = some (some (.agg #[.int .u64 0, .slice none 0 0]), 2, 32) := by kernel_rfl
/-- make([]T, n) of elements of several cells: the exact world. -/
theorem makeN {P : Program} (t e : TypeId) (z : Value) (zs : Array Value) (size bytes : Nat) (ht : P.underlying t = some (.slice e)) (hi : (P.info? e).map (fun i => (i.zero, i.size, i.bytes)) = some (some z, size, bytes)) (hz : z.cells = zs)
    (n : Nat) (hb : n * bytes ≤ 281474976710656) (hn : n ≤ 9223372036854775807) (w : World) :
    (Instr.makeSlice t (.int .i64 n) (.int .i64 n)).run P w = .ok (.slice (some ⟨w.heap.size, 0, none⟩) n n) (w.alloc (.cells (madeCells zs (n * size)) e)) := by
  obtain ⟨i, h1, h2, h3, h4⟩ := info_parts hi
  have hb' : (i.bytes : Int) * (n : Int) ≤ 281474976710656 := by
    have h : ((i.bytes * n : Nat) : Int) ≤ 281474976710656 := by rw [h4, Nat.mul_comm]; omega
    rwa [Int.natCast_mul] at h
  have := run_make (P := P) w t e i z ht h1 h2 .i64 .i64 n n (by omega) (Int.le_refl _) hb' (by omega)
  simp only [Int.toNat_natCast, h3, hz] at this
  exact this
theorem Has.newA (w : World) (cs : Array Value) (T : TypeId) : Has (w.alloc (.cells cs T)) w.heap.size cs.toList T := by
  unfold Has; rw [heap_alloc_new]
theorem madeCells_get (zs : Array Value) (n k : Nat) (h : k < n) : (madeCells zs n).toList[k]? = some (zs[k % zs.size]!) := by
  unfold madeCells
  simp [h]
theorem madeCells_len (zs : Array Value) (n : Nat) : (madeCells zs n).toList.length = n := by simp [size_madeCells]

/-- A device of these words. -/
def lnOf (ws : List Nat) (l : Nat) : Ln := ⟨(ws.drop (l * 8)).take 8, [], 0⟩
def fromP (n : Nat) (ws : List Nat) : Dv := ⟨(List.range n).map (lnOf ws), List.replicate 8 [], List.replicate 8 0, -1, false, 0⟩
theorem fromP_line (n : Nat) (ws : List Nat) (i : Nat) (h : i < n) : (fromP n ws).line i = lnOf ws i := by
  unfold Dv.line fromP; exact getDx_of _ (by rw [List.getElem?_map, List.getElem?_range h]; rfl)
theorem fromP_len (n : Nat) (ws : List Nat) : (fromP n ws).lines.length = n := by simp [fromP]
theorem chunks (n : Nat) : ∀ (ws : List Nat), ws.length = n * 8 → (List.range n).flatMap (fun l => (ws.drop (l * 8)).take 8) = ws := by
  induction n with
  | zero => intro ws h; simp at h; subst h; rfl
  | succ n ih =>
    intro ws h
    rw [List.range_succ, List.flatMap_append]
    have h1 := ih (ws.take (n * 8)) (by rw [List.length_take]; omega)
    have h2 : (List.range n).flatMap (fun l => (ws.drop (l * 8)).take 8) = (List.range n).flatMap (fun l => ((ws.take (n * 8)).drop (l * 8)).take 8) := by
      rw [List.flatMap_def, List.flatMap_def]
      congr 1
      apply List.map_congr_left
      intro l hl
      have hl' : l < n := by simpa using hl
      rw [List.drop_take, List.take_take]
      congr 1; omega
    rw [h2, h1]
    simp only [List.flatMap_cons, List.flatMap_nil, List.append_nil]
    rw [List.take_of_length_le (show (ws.drop (n * 8)).length ≤ 8 by rw [List.length_drop]; omega), List.take_append_drop]
theorem fromP_per (n : Nat) (ws : List Nat) (h : ws.length = n * 8) : (fromP n ws).perW = ws := by
  have := chunks n ws h
  unfold Dv.perW fromP
  rw [List.flatMap_def, List.map_map]
  rw [List.flatMap_def] at this
  exact this
theorem fromP_cur (n : Nat) (ws : List Nat) (h : ws.length = n * 8) : (fromP n ws).curW = ws := by
  have := chunks n ws h
  unfold Dv.curW fromP
  rw [List.flatMap_def, List.map_map]
  rw [List.flatMap_def] at this
  exact this
theorem fromP_ok (n : Nat) (ws : List Nat) (h1 : 1 ≤ n) (h2 : n ≤ 4096) (h : ws.length = n * 8) (hw : ∀ x ∈ ws, x < 18446744073709551616) : (fromP n ws).Ok 0 := by
  refine ⟨by omega, by rw [fromP_len]; exact h1, by rw [fromP_len]; exact h2, ?_, by simp [fromP], ?_, ?_, by simp [fromP], ?_, by simp [fromP], by simp [fromP], by simp [fromP]⟩
  · intro i hi
    rw [fromP_len] at hi
    rw [fromP_line n ws i hi]
    refine ⟨?_, fun x hx => hw x (List.mem_of_mem_drop (List.mem_of_mem_take hx)), by simp [lnOf], by simp [lnOf]⟩
    show ((ws.drop (i * 8)).take 8).length = 8
    rw [List.length_take, List.length_drop]; omega
  · intro t ht; rw [show (fromP n ws).notes.getD t [] = [] from rep_getD 8 t [] [] ht]; exact List.nodup_nil
  · intro t ht x hx; rw [show (fromP n ws).notes.getD t [] = [] from rep_getD 8 t [] [] ht] at hx; cases hx
  · intro e he; exact .inl (List.eq_of_mem_replicate he)

/-- The device's cells while the first t threads are made. -/
def devC0 (pb pc cb cc lb n B t : Nat) : List Value :=
  [.slice (some ⟨pb, 0, none⟩) (n * 8) pc, .slice (some ⟨cb, 0, none⟩) (n * 8) cc, .slice (some ⟨lb, 0, none⟩) n n] ++ ((List.range 8).map fun j => if j < t then Value.pointer (some ⟨B + j * 2 + 1, 0, none⟩) else .pointer none) ++ [.bool false, .bool false, .int .i64 0, .int .u64 0]
theorem devC0_at (pb pc cb cc lb n B t : Nat) (ht : t < 8) : (devC0 pb pc cb cc lb n B t)[3 + t]? = some (.pointer none) := by
  match t, ht with
  | 0, _ | 1, _ | 2, _ | 3, _ | 4, _ | 5, _ | 6, _ | 7, _ => rfl
theorem devC0_set (pb pc cb cc lb n B t : Nat) (ht : t < 8) : (devC0 pb pc cb cc lb n B t).set (3 + t) (.pointer (some ⟨B + t * 2 + 1, 0, none⟩)) = devC0 pb pc cb cc lb n B (t + 1) := by
  match t, ht with
  | 0, _ | 1, _ | 2, _ | 3, _ | 4, _ | 5, _ | 6, _ | 7, _ => rfl
/-- What region 1 of 'of' leaves. -/
def OfMid (w : World) (pb pc n : Nat) (ws : List Nat) (d : Value) (wx : World) : Prop :=
  ∃ g cb cc lb, d = .pointer (some ⟨g, 0, none⟩) ∧ Has wx g (devC0 pb pc cb cc lb n 0 0) 91 ∧ wx.ownsRow 0 35 1 (.slice (some ⟨cb, 0, none⟩) (n * 8) cc) (n * 8) (u64s ws) ∧
    Has wx lb (madeCells #[.int .u64 0, .slice none 0 0] (n * 2)).toList 101 ∧ Below w.heap.size w wx ∧ w.heap.size ≤ g ∧ w.heap.size ≤ cb ∧ w.heap.size ≤ lb ∧ g ≠ cb ∧ g ≠ lb ∧ cb ≠ lb
theorem own_some {w : World} {T : TypeId} {a : Option Addr} {m c : Nat} {xs : List Value} (h : w.ownsRow 0 T 1 (.slice a m c) m xs) (hm : 0 < m) : ∃ b, a = some ⟨b, 0, none⟩ := by
  rcases h.2 with ⟨_, h2⟩ | ⟨g, cap, cur, h2, _⟩
  · omega
  · simp only [Value.slice.injEq] at h2; exact ⟨g, h2.1⟩
theorem OfMid_A {w wc : World} {pb pc n c : Nat} {ws : List Nat} {ca : Option Addr} (hn : 1 ≤ n) (own : wc.ownsRow 0 35 1 (.slice ca (n * 8) c) (n * 8) (u64s ws)) (B : Below w.heap.size w wc) (fr : ∀ k, Value.ownBlock (.slice ca (n * 8) c) = some k → w.heap.size ≤ k) {wx : World}
    (hx : wx = ((wc.alloc (.cells (madeCells #[.int .u64 0, .slice none 0 0] (n * 2)) 101)).alloc (.cells #[.slice (some ⟨pb, 0, none⟩) (n * 8) pc, .slice ca (n * 8) c, .slice (some ⟨wc.heap.size, 0, none⟩) n n, .pointer none, .pointer none, .pointer none, .pointer none, .pointer none, .pointer none, .pointer none, .pointer none, .bool false, .bool false, .int .i64 0, .int .u64 0] 91))) :
    OfMid w pb pc n ws (.pointer (some ⟨wc.heap.size + 1, 0, none⟩)) wx := by
  subst hx
  obtain ⟨cb, rfl⟩ := own_some own (by omega)
  have hcb := fr cb rfl
  have hcl := ownsRow_lt own (k := cb) rfl
  have hs := B.size
  have l1 := (Has.newA wc (madeCells #[.int .u64 0, .slice none 0 0] (n * 2)) 101).alloc (.cells #[.slice (some ⟨pb, 0, none⟩) (n * 8) pc, .slice (some ⟨cb, 0, none⟩) (n * 8) c, .slice (some ⟨wc.heap.size, 0, none⟩) n n, .pointer none, .pointer none, .pointer none, .pointer none, .pointer none, .pointer none, .pointer none, .pointer none, .bool false, .bool false, .int .i64 0, .int .u64 0] 91)
  have l2 := Has.new (wc.alloc (.cells (madeCells #[.int .u64 0, .slice none 0 0] (n * 2)) 101)) (devC0 pb pc cb c wc.heap.size n 0 0) 91
  simp only [World.size_alloc] at l2
  refine ⟨_, cb, c, wc.heap.size, rfl, l2, ((own.alloc _).alloc _), l1, ((B.alloc hs _).alloc (by simp; omega) _), by omega, hcb, hs, by omega, by omega, by omega⟩
theorem OfMid_B {w wc : World} {pb pc n c : Nat} {ws : List Nat} {ca : Option Addr} (hn : 1 ≤ n) (own : wc.ownsRow 0 35 1 (.slice ca (n * 8) c) (n * 8) (u64s ws))
    (B : Below (w.heap.size + 1) (w.alloc (.cells (madeCells #[.int .u64 0, .slice none 0 0] (n * 2)) 101)) wc) (fr : ∀ k, Value.ownBlock (.slice ca (n * 8) c) = some k → w.heap.size + 1 ≤ k) {wx : World}
    (hx : wx = (wc.alloc (.cells #[.slice (some ⟨pb, 0, none⟩) (n * 8) pc, .slice ca (n * 8) c, .slice (some ⟨w.heap.size, 0, none⟩) n n, .pointer none, .pointer none, .pointer none, .pointer none, .pointer none, .pointer none, .pointer none, .pointer none, .bool false, .bool false, .int .i64 0, .int .u64 0] 91))) :
    OfMid w pb pc n ws (.pointer (some ⟨wc.heap.size, 0, none⟩)) wx := by
  subst hx
  obtain ⟨cb, rfl⟩ := own_some own (by omega)
  have hcb := fr cb rfl
  have hcl := ownsRow_lt own (k := cb) rfl
  have hs := B.size
  simp only [World.size_alloc] at hs
  have hB0 : Below w.heap.size w wc := ((Below.refl w.heap.size w).alloc (Nat.le_refl _) _).trans (B.mono (by omega))
  have l1 := ((Has.newA w (madeCells #[.int .u64 0, .slice none 0 0] (n * 2)) 101).only (Only.of_below B) (by omega)).alloc (.cells #[.slice (some ⟨pb, 0, none⟩) (n * 8) pc, .slice (some ⟨cb, 0, none⟩) (n * 8) c, .slice (some ⟨w.heap.size, 0, none⟩) n n, .pointer none, .pointer none, .pointer none, .pointer none, .pointer none, .pointer none, .pointer none, .pointer none, .bool false, .bool false, .int .i64 0, .int .u64 0] 91)
  have l2 := Has.new wc (devC0 pb pc cb c w.heap.size n 0 0) 91
  refine ⟨_, cb, c, w.heap.size, rfl, l2, own.alloc _, l1, hB0.alloc (by omega) _, by omega, by omega, by omega, by omega, by omega, by omega⟩
theorem devC0_zero (pb pc cb cc lb n B : Nat) : devC0 pb pc cb cc lb n 0 0 = devC0 pb pc cb cc lb n B 0 := rfl
def thrC0 (g B j : Nat) : List Value := [.pointer (some ⟨g, 0, none⟩), .int .i64 (j : Int), .int .i64 0, .map (some (B + j * 2))]
/-- The loop of 'of': the first t threads are made. -/
structure OfSt (wx : World) (pb pc cb cc lb n g t : Nat) (wr : World) : Prop where
  sz : wr.heap.size = wx.heap.size + t * 2
  dev : Has wr g (devC0 pb pc cb cc lb n wx.heap.size t) 91
  mp : ∀ j, j < t → wr.heap[wx.heap.size + j * 2]? = some (.map #[] 0)
  th : ∀ j, j < t → Has wr (wx.heap.size + j * 2 + 1) (thrC0 g wx.heap.size j) 94
  only : Only (fun k => k = g) wx wr
theorem OfSt.step {wx wr w' : World} {pb pc cb cc lb n g t : Nat} (h : OfSt wx pb pc cb cc lb n g t wr) (ht : t < 8) (hg : g < wx.heap.size)
    (ho : w' = ((wr.alloc (.map #[] 0)).alloc (.cells #[.pointer (some ⟨g, 0, none⟩), .int .i64 (t : Int), .int .i64 0, .map (some wr.heap.size)] 94)).setCell ⟨g, 3 + t, none⟩ (.pointer (some ⟨wr.heap.size + 1, 0, none⟩))) : OfSt wx pb pc cb cc lb n g (t + 1) w' := by
  subst ho
  have hz := h.sz
  have O : Only (fun k => k = g) wr (((wr.alloc (.map #[] 0)).alloc (.cells #[.pointer (some ⟨g, 0, none⟩), .int .i64 (t : Int), .int .i64 0, .map (some wr.heap.size)] 94)).setCell ⟨g, 3 + t, none⟩ (.pointer (some ⟨wr.heap.size + 1, 0, none⟩))) :=
    Only.setCell (S := fun k => k = g) (((Only.refl (fun k => k = g) wr).alloc _).alloc _) (a := ⟨g, 3 + t, none⟩) (fun _ => rfl) _
  refine ⟨by simp; omega, ?_, ?_, ?_, h.only.trans O⟩
  · have := ((h.dev.alloc (.map #[] 0)).alloc (.cells #[.pointer (some ⟨g, 0, none⟩), .int .i64 (t : Int), .int .i64 0, .map (some wr.heap.size)] 94)).set (3 + t) (.pointer (some ⟨wr.heap.size + 1, 0, none⟩))
    rw [hz] at this ⊢
    rw [devC0_set _ _ _ _ _ _ _ _ ht] at this
    exact this
  · intro j hj
    rcases Nat.lt_or_ge j t with h1 | h1
    · rw [O.block _ (by omega) (by omega)]; exact h.mp j h1
    · obtain rfl : j = t := by omega
      rw [heap_setCell_ne (by show wx.heap.size + j * 2 ≠ g; omega), heap_alloc_lt (by simp; omega), ← hz]
      exact heap_alloc_new
  · intro j hj
    rcases Nat.lt_or_ge j t with h1 | h1
    · exact (h.th j h1).only O (by omega)
    · obtain rfl : j = t := by omega
      have := Has.new (wr.alloc (.map #[] 0)) (thrC0 g wx.heap.size j) 94
      simp only [World.size_alloc, hz] at this
      have e : (Obj.cells (thrC0 g wx.heap.size j).toArray 94) = .cells #[.pointer (some ⟨g, 0, none⟩), .int .i64 (j : Int), .int .i64 0, .map (some wr.heap.size)] 94 := by rw [hz]; rfl
      rw [e] at this
      exact this.set_ne (by show wx.heap.size + j * 2 + 1 ≠ g; omega) _
theorem own_mapE {w : World} {P : Program} {k : TypeId} {R : Value → Option (DataW Unit × List MemPlace)} {b : Nat} (h : w.heap[b]? = some (.map #[] 0)) : w.ownsMap P k R b 0 (.map []) := by
  have h0 := World.ownsMap_made (H := Unit) w P k R
  obtain ⟨es, cl, hb, r⟩ := h0
  rw [heap_alloc_new] at hb
  cases hb
  exact ⟨#[], 0, h, r⟩
def OfPost (w : World) (F : Own) (o pb n : Nat) (ws : List Nat) (e : Ending) (w' : World) : Prop :=
  ∃ L F', e = .returned (.pointer (some ⟨L.g, 0, none⟩)) ∧ DevSt w' F' o L 0 (fromP n ws) ∧ L.pb = pb ∧ Ext w F F' ∧ Below w.heap.size w w'
theorem OfSt.done {w wx wr : World} {F : Own} {o pb pc cb cc lb n g : Nat} {ws : List Nat} (h : OfSt wx pb pc cb cc lb n g 8 wr) (hl : ws.length = n * 8) (h1 : 1 ≤ n) (h2 : n ≤ 4096) (hw : ∀ x ∈ ws, x < 18446744073709551616)
    (hown : w.ownsRow 0 35 1 (.slice (some ⟨pb, 0, none⟩) (n * 8) pc) (n * 8) (u64s ws)) (hF : F pb = some (o, 1, 0))
    (hc : wx.ownsRow 0 35 1 (.slice (some ⟨cb, 0, none⟩) (n * 8) cc) (n * 8) (u64s ws)) (hlb : Has wx lb (madeCells #[.int .u64 0, .slice none 0 0] (n * 2)).toList 101) (hB : Below w.heap.size w wx)
    (g1 : w.heap.size ≤ g) (g2 : w.heap.size ≤ cb) (g3 : w.heap.size ≤ lb) (n1 : g ≠ cb) (n2 : g ≠ lb) (n3 : cb ≠ lb) (hg : g < wx.heap.size) : OfPost w F o pb n ws (.returned (.pointer (some ⟨g, 0, none⟩))) wr := by
  have hpbl := ownsRow_lt hown (k := pb) rfl
  have hcbl := ownsRow_lt hc (k := cb) rfl
  have hlbl := hlb.lt
  have hbs := hB.size
  let F' : Own := fun k => if k < w.heap.size then F k else if k = g then some (o, 0, 0) else if k = cb then some (o, 2, 0) else if k = lb then some (o, 3, 0) else if k < wx.heap.size then none else if (k - wx.heap.size) % 2 = 0 then some (o, 6, (k - wx.heap.size) / 2) else some (o, 5, (k - wx.heap.size) / 2)
  have hperl := fromP_per n ws hl
  have hcurl := fromP_cur n ws hl
  have hlen := fromP_len n ws
  refine ⟨⟨g, pb, pc, cb, cc, lb, fun t => wx.heap.size + t * 2 + 1, fun t => wx.heap.size + t * 2⟩, F', rfl, ⟨fromP_ok n ws h1 h2 hl hw, ?_, ?_, ?_, ?_, ?_, ?_, ?_, ?_, fun t ht => ?_, fun t ht => ?_⟩, rfl, fun k hk => if_pos hk, ?_⟩
  · have e : devCells ⟨g, pb, pc, cb, cc, lb, fun t => wx.heap.size + t * 2 + 1, fun t => wx.heap.size + t * 2⟩ (fromP n ws) = devC0 pb pc cb cc lb n wx.heap.size 8 := by
      unfold devCells; rw [hlen]; rfl
    rw [e]; exact h.dev
  · show F' g = _; simp only [F', if_neg (show ¬ g < w.heap.size by omega), if_true]
  · rw [hlen, hperl]; exact ownsRow_only (ownsRow_only hown (Only.of_below hB) (by intro k hk; cases hk; exact Nat.not_le.2 hpbl)) h.only (by intro k hk; cases hk; show ¬ pb = g; omega)
  · show F' pb = _; simp only [F', if_pos hpbl]; exact hF
  · rw [hlen, hcurl]; exact ownsRow_only hc h.only (by intro k hk; cases hk; exact fun e => n1 e.symm)
  · show F' cb = _; simp only [F', if_neg (show ¬ cb < w.heap.size by omega), if_neg (fun e => n1 e.symm : ¬ cb = g), if_true]
  · refine ⟨_, fun _ => .slice none 0 0, hlb.only h.only (fun e => n2 e.symm), by rw [madeCells_len, hlen], fun i hi => ?_⟩
    rw [hlen] at hi
    rw [fromP_line n ws i hi]
    refine ⟨?_, ?_, SubV.nil _ _ _, fun k hk => by cases hk⟩
    · rw [madeCells_get _ _ _ (by omega)]
      have : i * 2 % 2 = 0 := by omega
      simp [this, lnOf]
    · rw [madeCells_get _ _ _ (by omega)]
      have : (i * 2 + 1) % 2 = 1 := by omega
      simp [this]
  · show F' lb = _; simp only [F', if_neg (show ¬ lb < w.heap.size by omega), if_neg (fun e => n2 e.symm : ¬ lb = g), if_neg (fun e => n3 e.symm : ¬ lb = cb), if_true]
  · refine ⟨?_, ?_⟩
    · have e : thrCells ⟨g, pb, pc, cb, cc, lb, fun t => wx.heap.size + t * 2 + 1, fun t => wx.heap.size + t * 2⟩ (fromP n ws) t = thrC0 g wx.heap.size t := by
        unfold thrCells thrC0
        rw [show (fromP n ws).errs.getD t 0 = 0 from rep_getD 8 t 0 0 ht]; rfl
      rw [e]; exact h.th t ht
    · show F' (wx.heap.size + t * 2 + 1) = _
      simp only [F', if_neg (show ¬ wx.heap.size + t * 2 + 1 < w.heap.size by omega), if_neg (show ¬ wx.heap.size + t * 2 + 1 = g by omega), if_neg (show ¬ wx.heap.size + t * 2 + 1 = cb by omega), if_neg (show ¬ wx.heap.size + t * 2 + 1 = lb by omega), if_neg (show ¬ wx.heap.size + t * 2 + 1 < wx.heap.size by omega)]
      rw [if_neg (by omega), show (wx.heap.size + t * 2 + 1 - wx.heap.size) / 2 = t from by omega]
  · refine ⟨?_, ?_⟩
    · rw [show (fromP n ws).notes.getD t [] = [] from rep_getD 8 t [] [] ht]
      exact NoteV.none (own_mapE (h.mp t ht))
    · show F' (wx.heap.size + t * 2) = _
      simp only [F', if_neg (show ¬ wx.heap.size + t * 2 < w.heap.size by omega), if_neg (show ¬ wx.heap.size + t * 2 = g by omega), if_neg (show ¬ wx.heap.size + t * 2 = cb by omega), if_neg (show ¬ wx.heap.size + t * 2 = lb by omega), if_neg (show ¬ wx.heap.size + t * 2 < wx.heap.size by omega)]
      rw [if_pos (by omega), show (wx.heap.size + t * 2 - wx.heap.size) / 2 = t from by omega]
  · exact hB.trans (h.only.below hbs (by rintro k _ rfl; exact g1))

set_option maxHeartbeats 4000000 in
set_option maxRecDepth 100000 in
theorem dof_any (n : Nat) (pb pc : Nat) (ws : List Nat) (hl : ws.length = n * 8) (h1 : 1 ≤ n) (h2 : n ≤ 4096) (hw : ∀ x ∈ ws, x < 18446744073709551616)
    (hown : w.ownsRow 0 35 1 (.slice (some ⟨pb, 0, none⟩) (n * 8) pc) (n * 8) (u64s ws)) (hF : F pb = some (o, 1, 0)) :
    Calls Try.prog 39 #[.slice (some ⟨pb, 0, none⟩) (n * 8) pc] w (OfPost w F o pb n ws) := by
  generalize hpost : OfPost w F o pb n ws = post
  replace hpost := Lib.hid hpost
  have hcl : ∀ w' : World, Below w.heap.size w w' → Calls Try.prog 50 #[.slice (some ⟨pb, 0, none⟩) (n * 8) pc] w' (ClonePost w' 35 1 (n * 8) (u64s ws)) := by
    intro w' hB
    have := cloneU_any w' pb 0 pc ws (by rw [hl]; exact (Rd.of_own hown).kept hB) (by omega)
    rw [hl] at this; exact this
  replace hcl := Lib.hid hcl
  have hmk := fun w => makeN (P := Try.prog) 88 101 (.agg #[.int .u64 0, .slice none 0 0]) #[.int .u64 0, .slice none 0 0] 2 32 Try.underlying88 infoLin rfl n (by omega) (by omega) w
  replace hl := Lib.hid hl
  have hwr : IntKind.i64.wrap (n : Int) = (n : Int) := IntWalk.i64_in _ (by omega)
  replace hF := Lib.hid hF
  go_enter Try.func39, Try.ntmps39
  go_wp2_with fail
  go_cut [3] (fun d wx => OfMid w pb pc n ws d wx)
  case first =>
    go_region_with ((go_at_call 50; refine (hcl.out _ (by first | exact Below.refl _ _ | exact (Below.refl _ _).alloc (Nat.le_refl _) _ | exact below_drewN (Below.refl _ _) 1 | exact below_drewN ((Below.refl _ _).alloc (Nat.le_refl _) _) 1)).mono ?_; rintro e wc ⟨ca, cc, rfl, ownc, Bc, frc⟩))
    · have Bc0 : Below w.heap.size w wc := (below_drewN (Below.refl w.heap.size w) 1).trans Bc
      have hfin := OfMid_A (pb := pb) (pc := pc) h1 ownc Bc0 frc rfl
      replace hfin := Lib.hid hfin
      clear ownc Bc frc
      go_wp2_with fail
      go_meet
      exact hfin.out
    · have Bc0 : Below (w.heap.size + 1) (w.alloc (.cells (madeCells #[.int .u64 0, .slice none 0 0] (n * 2)) 101)) wc := ((Below.refl (w.heap.size + 1) (w.alloc (.cells (madeCells #[.int .u64 0, .slice none 0 0] (n * 2)) 101))).drew).trans (by simpa using Bc)
      have hfin := OfMid_B (pb := pb) (pc := pc) h1 ownc Bc0 (fun k hk => by have := frc k hk; simpa using this) rfl
      replace hfin := Lib.hid hfin
      clear ownc Bc frc
      go_wp2_with fail
      go_meet
      exact hfin.out
  case rest =>
    obtain ⟨g, cb, cc, lb, rfl, m1, m2, m3, m4, m5, m6, m7, m8, m9, m10⟩ := hcut
    have hfin : ∀ wr, OfSt wc pb pc cb cc lb n g 8 wr → post (.returned (.pointer (some ⟨g, 0, none⟩))) wr := by
      intro wr h
      rw [← hpost.out]
      exact h.done hl.out h1 h2 hw hown hF.out m2 m3 m4 m5 m6 m7 m8 m9 m10 m1.lt
    have hgl := m1.lt
    have hi : OfSt wc pb pc cb cc lb n g 0 wc := ⟨by omega, by rw [← devC0_zero]; exact m1, fun j hj => by omega, fun j hj => by omega, Only.refl _ _⟩
    have hmm := @run_makeMap Try.prog
    replace hfin := Lib.hid hfin
    clear m1 m2 m3 m4 m5 m6 m7 m8 m9 m10 hmk hcl hown
    go_wp2_with fail
    go_loopw [14] (fun i wr => ∃ t : Nat, t ≤ 8 ∧ i = .int .i64 t ∧ OfSt wc pb pc cb cc lb n g t wr) (fun i _ => 8 - (intOf i).toNat)
    case atStart => exact ⟨0, by omega, rfl, hi⟩
    case round =>
      clear hi
      obtain ⟨t, ht, rfl, hI⟩ := hrel
      by_cases ht8 : t < 8
      · have ht8I : (t : Int) < 8 := by omega
        have hat := (hI.dev.alloc (.map #[] 0)).cell (devC0_at pb pc cb cc lb n wc.heap.size t ht8)
        have hat2 := ((hI.dev.alloc (.map #[] 0)).alloc (.cells #[.pointer (some ⟨g, 0, none⟩), .int .i64 (t : Int), .int .i64 0, .map (some wr.heap.size)] 94)).cell (devC0_at pb pc cb cc lb n wc.heap.size t ht8)
        have haf := ((hI.dev.alloc (.map #[] 0)).alloc (.cells #[.pointer (some ⟨g, 0, none⟩), .int .i64 (t : Int), .int .i64 0, .map (some wr.heap.size)] 94)).free (3 + t)
        have hst := hI.step ht8 hgl rfl
        replace hst := Lib.hid hst
        clear hI
        go_wp2_with fail
        go_roundw
        case rel => exact ⟨t + 1, by omega, by go_num, hst.out⟩
        case measure => simp [intOf]; omega
      · obtain rfl : t = 8 := by omega
        have hx := Lib.hid (hfin.out wr hI)
        clear hI
        go_wp2_with fail
        exact hx.out

theorem newP_from (n : Nat) : fromP n (List.replicate (n * 8) 0) = newP n := by
  unfold fromP newP
  congr 1
  apply List.ext_getElem?
  intro i
  rcases Nat.lt_or_ge i n with h | h
  · rw [List.getElem?_map, List.getElem?_range h, List.getElem?_replicate, if_pos h]
    simp only [Option.map_some, lnOf, List.drop_replicate, List.take_replicate]
    congr 3
    omega
  · rw [List.getElem?_eq_none (by simpa using h), List.getElem?_eq_none (by simpa using h)]
theorem u64s_rep (n : Nat) : u64s (List.replicate n 0) = List.replicate n (.int .u64 0) := by simp [u64s]
theorem own_rep (w : World) (n : Nat) (hn : n ≤ maxLen) : (w.alloc (.cells (Array.replicate n (.int .u64 0)) 35)).ownsRow 0 35 1 (.slice (some ⟨w.heap.size, 0, none⟩) n n) n (u64s (List.replicate n 0)) := by
  rw [u64s_rep]
  refine ⟨by simp, .inr ⟨w.heap.size, n, _, rfl, Nat.zero_le _, heap_alloc_new, Nat.le_refl _, hn, by simp, ?_⟩⟩
  rw [Array.toList_replicate]; simp
def NewPost (w : World) (F : Own) (o : Nat) (R : Dv) (e : Ending) (w' : World) : Prop :=
  ∃ L F', e = .returned (.tuple #[.pointer (some ⟨L.g, 0, none⟩), .int .i64 0]) ∧ DevSt w' F' o L 0 R ∧ Ext w F F' ∧ Below w.heap.size w w'
set_option maxHeartbeats 2000000 in
theorem new_any (w : World) (F : Own) (o n : Nat) (h1 : 1 ≤ n) (h2 : n ≤ 4096) : Calls Try.prog 25 #[.int .i64 (n : Int)] w (NewPost w F o (newP n)) := by
  generalize hpost : NewPost w F o (newP n) = post
  have hmk := make1 (P := Try.prog) 38 35 (.int .u64 0) 8 Try.underlying38 infoU64 rfl (n * 8) (by omega) (by omega) w
  rw [show ((n * 8 : Nat) : Int) = (n : Int) * 8 from by simp] at hmk
  have hof := dof_any (F := F.put w.heap.size (o, 1, 0)) (o := o) n w.heap.size (n * 8) (List.replicate (n * 8) 0) (by simp) h1 h2 (fun x hx => by rw [List.eq_of_mem_replicate hx]; omega) (own_rep w (n * 8) (by unfold maxLen; omega)) (Own.put_at _ _ _)
  have hd1 : decide ((n : Int) < 1) = false := decide_eq_false (by omega)
  have hn1 : ¬ (n : Int) < 1 := by omega
  have hd2 : ¬ (4096 : Int) < (n : Int) := by omega
  replace hof := Lib.hid hof
  replace hpost := Lib.hid hpost
  go_enter Try.func25, Try.ntmps25
  go_wp2_with fail
  refine hof.out.mono ?_
  rintro e w' ⟨L, F', rfl, hD, _, hx, hB⟩
  have hfin : post (.returned (.tuple #[.pointer (some ⟨L.g, 0, none⟩), .int .i64 0])) w' := by
    rw [← hpost.out]
    rw [newP_from] at hD
    exact ⟨L, F', rfl, hD, ((Ext.refl w F).put (Nat.le_refl _) _).trans hx (by simp), ((Below.refl w.heap.size w).alloc (Nat.le_refl _) _).trans (hB.mono (by simp))⟩
  replace hfin := Lib.hid hfin
  clear hD hx hB
  go_wp2_with fail
  first | exact hfin.out | (go_ret2; exact hfin.out)
theorem new_bad (w : World) (n : Int) (h : n < 1 ∨ 4096 < n) : Calls Try.prog 25 #[.int .i64 n] w fun e w' => e = .returned (.tuple #[.pointer none, .int .i64 1]) ∧ w = w' := by
  by_cases h1 : n < 1
  · have hd1 : decide (n < 1) = true := decide_eq_true h1
    go_enter Try.func25, Try.ntmps25
    go_wp2_with fail
    go_ret2
    exact ⟨rfl, rfl⟩
  · have hd1 : decide (n < 1) = false := decide_eq_false h1
    have h2 : (4096 : Int) < n := by omega
    go_enter Try.func25, Try.ntmps25
    go_wp2_with fail
    go_ret2
    exact ⟨rfl, rfl⟩
end Go.Proofs.Ytdminbjenbbpaaa
