/- Appends to a row that the call builds, as steps of the walk and of regions. -/
import Derived.Test.YtgnoikfmhncbmaaGreatDoorR0
import Derived.Test.YtgnoikfmhncbmaaGreatDoorNum
import Derived.Lib.AppendStr
import Derived.Deep.RegionLaw
import Derived.Deep.RegionHeld3
set_option linter.unusedVariables false
set_option linter.unusedSimpArgs false
namespace Go.Proofs.YtgnoikfmhncbmaaGreatDoor
open Go.RowKit Go.Lib

theorem RowB.based {w wr : World} {T : TypeId} {size n : Nat} {xs : List Value} {sa : Option Addr} {sc : Nat} (h : RowB w T size n xs sa sc wr) : wr.ownsRow w.heap.size T size (.slice sa n sc) n xs := by
  obtain ⟨h1, h2⟩ := h.o
  refine ⟨h1, ?_⟩
  rcases h2 with h2 | ⟨g, cap, cur, hv, hg, r⟩
  · exact .inl h2
  · exact .inr ⟨g, cap, cur, hv, h.ob g (by rw [hv]; rfl), r⟩
theorem owns_zero {w : World} {B : Nat} {T : TypeId} {size n : Nat} {xs : List Value} {v : Value} (h : w.ownsRow B T size v n xs) : w.ownsRow 0 T size v n xs := by
  obtain ⟨h1, h2⟩ := h
  refine ⟨h1, ?_⟩
  rcases h2 with h2 | ⟨g, cap, cur, hv, hg, r⟩
  · exact .inl h2
  · exact .inr ⟨g, cap, cur, hv, Nat.zero_le _, r⟩
theorem owns_form {w : World} {B : Nat} {T : TypeId} {size n : Nat} {xs : List Value} {v : Value} (hs : 0 < size) (h : w.ownsRow B T size v n xs) : ∃ sa sc, v = .slice sa n sc ∧ ∀ k, Value.ownBlock (.slice sa n sc) = some k → B ≤ k := by
  obtain ⟨h1, h2⟩ := h
  rcases h2 with ⟨rfl, rfl⟩ | ⟨g, cap, cur, rfl, hg, r⟩
  · exact ⟨none, 0, rfl, fun k hk => by cases hk⟩
  · refine ⟨_, cap, rfl, fun k hk => ?_⟩
    simp only [Value.ownBlock, Option.some.injEq] at hk
    omega
theorem RowB.app_run {P : Program} {w w1 : World} {e : TypeId} {size n : Nat} {xs : List Value} {sa : Option Addr} {sc : Nat} (hR : RowB w e size n xs sa sc w1) (t ty : TypeId) (z : Value) (bytes : Nat) (ht : P.underlying t = some (.slice e))
    (hi : (P.info? e).map (fun i => (i.zero, i.size, i.bytes)) = some (some z, size, bytes)) (hzs : z.cells.size = size) (hsz : 0 < size) (hby : 0 < bytes)
    (ad : Addr) (m c : Nat) (news : List Value) (hl : news.length = m * size) (hnews : ∀ j u, news[j]? = some u → w1.cell? (ad.add j) = some u) (h1 : ∀ u ∈ news, u.oneCell' = true)
    (hbytes : (n + m) * bytes ≤ 140737488355328) :
    ∃ sa' sc' w2, (Builtin.append_ #[t, t] ty #[.slice sa n sc, .slice (some ad) m c]).run P w1 = .ok (.slice sa' (n + m) sc') w2 ∧ RowB w e size (n + m) (xs ++ news) sa' sc' w2 ∧ Only (fun k => Value.ownBlock (.slice sa n sc) = some k) w1 w2 := by
  obtain ⟨sa', sc', w2, h2, h3, h4, h5⟩ := Go.Proofs.YtgnoikfmhncbmaaGreatDoor.app_run w1 t ty e z size bytes ht hi hzs hsz hby sa n sc xs hR.o ad m c news hl hnews h1 hbytes
  exact ⟨sa', sc', w2, h2, hR.app h3 h4 h5, h4⟩
theorem RowB.str_run {P : Program} {w w1 : World} {e : TypeId} {n : Nat} {xs : List Value} {sa : Option Addr} {sc : Nat} (hR : RowB w e 1 n xs sa sc w1) (t u ty : TypeId) (ht : P.underlying t = some (.slice e)) (hu : P.underlying u = some .string)
    (hi : (P.info? e).map (fun i => (i.zero, i.size, i.bytes)) = some (some (.int .u8 0), 1, 1)) (s : ByteArray) (hbytes : n + s.size ≤ 140737488355328) :
    ∃ sa' sc' w2, (Builtin.append_ #[t, u] ty #[.slice sa n sc, .string s]).run P w1 = .ok (.slice sa' (n + s.size) sc') w2 ∧ RowB w e 1 (n + s.size) (xs ++ strCells s) sa' sc' w2 ∧ Only (fun k => Value.ownBlock (.slice sa n sc) = some k) w1 w2 := by
  obtain ⟨i, hi, hz, hsize, hbb⟩ := info_parts hi
  obtain ⟨v', w2, hr, h2, h3, _⟩ := run_append_own_string (P := P) w1 w.heap.size t u ty e i ht hu hi hz hsize hbb (.slice sa n sc) n xs hR.based s (by unfold maxLen; omega) hbytes hR.b.size
  obtain ⟨sa', sc', rfl, hb⟩ := owns_form (by decide) h2
  have hO : Only (fun k => Value.ownBlock (.slice sa n sc) = some k) w1 w2 := (Only.of_grown h3).mono fun k _ e => e.symm
  exact ⟨sa', sc', w2, hr, ⟨owns_zero h2, hb, hR.b.trans (hO.below (B := w.heap.size) hR.b.size (fun k _ e => hR.ob k e))⟩, hO⟩
/-- An append as a step of the walk. -/
theorem wpList_row {P : Program} {w w1 : World} {ops : Array Oper} {rest : List Oper} {o : Oper} {a : Act} {Q : Exit → Act → World → Prop} (hgd : o.guard = none) (s x : Operand) (t : TypeId)
    (ho : o.op = .call { callee := .builtin .append, args := #[s, x], argTypes := #[t, t] })
    (e : TypeId) (z : Value) (size bytes : Nat) (ht : P.underlying t = some (.slice e))
    (hi : (P.info? e).map (fun i => (i.zero, i.size, i.bytes)) = some (some z, size, bytes)) (hzs : z.cells.size = size) (hsz : 0 < size) (hby : 0 < bytes)
    (sa : Option Addr) (n sc : Nat) (xs : List Value) (hR : RowB w e size n xs sa sc w1) (hs : a.eval s = .slice sa n sc)
    (ad : Addr) (m c : Nat) (news : List Value) (hx : a.eval x = .slice (some ad) m c) (hl : news.length = m * size) (hnews : ∀ j u, news[j]? = some u → w1.cell? (ad.add j) = some u) (h1 : ∀ u ∈ news, u.oneCell' = true)
    (hbytes : (n + m) * bytes ≤ 140737488355328)
    (h : ∀ sa' sc' w2, RowB w e size (n + m) (xs ++ news) sa' sc' w2 → Only (fun k => Value.ownBlock (.slice sa n sc) = some k) w1 w2 → wpList P ops Q rest (a.put o.dst (.slice sa' (n + m) sc')) w2) : wpList P ops Q (o :: rest) a w1 := by
  refine wpList_plain hgd fun K hK => ?_
  obtain ⟨sa', sc', w2, hr, h2, h3⟩ := hR.app_run (P := P) t o.type z bytes ht hi hzs hsz hby ad m c news hl hnews h1 hbytes
  unfold Oper.wp execOp
  simp only [ho, resolve, invoke, builtin, Sem.run_bind, Sem.run_pure, Result.andThen_ok, List.map_toArray, List.map_cons, List.map_nil, hs, hx, hr]
  exact hK _ _ (h sa' sc' w2 h2 h3)
theorem wpList_rowStr {P : Program} {w w1 : World} {ops : Array Oper} {rest : List Oper} {o : Oper} {a : Act} {Q : Exit → Act → World → Prop} (hgd : o.guard = none) (sl x : Operand) (t u : TypeId)
    (ho : o.op = .call { callee := .builtin .append, args := #[sl, x], argTypes := #[t, u] })
    (e : TypeId) (ht : P.underlying t = some (.slice e)) (hu : P.underlying u = some .string)
    (hi : (P.info? e).map (fun i => (i.zero, i.size, i.bytes)) = some (some (.int .u8 0), 1, 1))
    (sa : Option Addr) (n sc : Nat) (xs : List Value) (hR : RowB w e 1 n xs sa sc w1) (hs : a.eval sl = .slice sa n sc) (s : ByteArray) (hx : a.eval x = .string s) (hbytes : n + s.size ≤ 140737488355328)
    (h : ∀ sa' sc' w2, RowB w e 1 (n + s.size) (xs ++ strCells s) sa' sc' w2 → Only (fun k => Value.ownBlock (.slice sa n sc) = some k) w1 w2 → wpList P ops Q rest (a.put o.dst (.slice sa' (n + s.size) sc')) w2) : wpList P ops Q (o :: rest) a w1 := by
  refine wpList_plain hgd fun K hK => ?_
  obtain ⟨sa', sc', w2, hr, h2, h3⟩ := hR.str_run (P := P) t u o.type ht hu hi s hbytes
  unfold Oper.wp execOp
  simp only [ho, resolve, invoke, builtin, Sem.run_bind, Sem.run_pure, Result.andThen_ok, List.map_toArray, List.map_cons, List.map_nil, hs, hx, hr]
  exact hK _ _ (h sa' sc' w2 h2 h3)
/-- The same as steps of a region that draws its order. -/
theorem step_row {P : Program} {w w1 : World} {ops : Array Oper} {o : Oper} {a : Act} {K : Act → World → Prop} {Q : Exit → Act → World → Prop} {E : Prop} (hgd : o.guard = none) (s x : Operand) (t : TypeId)
    (ho : o.op = .call { callee := .builtin .append, args := #[s, x], argTypes := #[t, t] })
    (e : TypeId) (z : Value) (size bytes : Nat) (ht : P.underlying t = some (.slice e))
    (hi : (P.info? e).map (fun i => (i.zero, i.size, i.bytes)) = some (some z, size, bytes)) (hzs : z.cells.size = size) (hsz : 0 < size) (hby : 0 < bytes)
    (sa : Option Addr) (n sc : Nat) (xs : List Value) (hR : RowB w e size n xs sa sc w1) (hs : a.eval s = .slice sa n sc)
    (ad : Addr) (m c : Nat) (news : List Value) (hx : a.eval x = .slice (some ad) m c) (hl : news.length = m * size) (hnews : ∀ j u, news[j]? = some u → w1.cell? (ad.add j) = some u) (h1 : ∀ u ∈ news, u.oneCell' = true)
    (hbytes : (n + m) * bytes ≤ 140737488355328)
    (h : ∀ sa' sc' w2, RowB w e size (n + m) (xs ++ news) sa' sc' w2 → Only (fun k => Value.ownBlock (.slice sa n sc) = some k) w1 w2 → K (a.put o.dst (.slice sa' (n + m) sc')) w2) :
    if Region.wanted o (yielded ops a.tmps) = true then Oper.wp P o a w1 K Q else E := by
  have hw : Region.wanted o (yielded ops a.tmps) = true := by simp [Region.wanted, hgd]
  rw [if_pos hw]
  obtain ⟨sa', sc', w2, hr, h2, h3⟩ := hR.app_run (P := P) t o.type z bytes ht hi hzs hsz hby ad m c news hl hnews h1 hbytes
  unfold Oper.wp execOp
  simp only [ho, resolve, invoke, builtin, Sem.run_bind, Sem.run_pure, Result.andThen_ok, List.map_toArray, List.map_cons, List.map_nil, hs, hx, hr]
  exact h sa' sc' w2 h2 h3
theorem step_rowStr {P : Program} {w w1 : World} {ops : Array Oper} {o : Oper} {a : Act} {K : Act → World → Prop} {Q : Exit → Act → World → Prop} {E : Prop} (hgd : o.guard = none) (sl x : Operand) (t u : TypeId)
    (ho : o.op = .call { callee := .builtin .append, args := #[sl, x], argTypes := #[t, u] })
    (e : TypeId) (ht : P.underlying t = some (.slice e)) (hu : P.underlying u = some .string)
    (hi : (P.info? e).map (fun i => (i.zero, i.size, i.bytes)) = some (some (.int .u8 0), 1, 1))
    (sa : Option Addr) (n sc : Nat) (xs : List Value) (hR : RowB w e 1 n xs sa sc w1) (hs : a.eval sl = .slice sa n sc) (s : ByteArray) (hx : a.eval x = .string s) (hbytes : n + s.size ≤ 140737488355328)
    (h : ∀ sa' sc' w2, RowB w e 1 (n + s.size) (xs ++ strCells s) sa' sc' w2 → Only (fun k => Value.ownBlock (.slice sa n sc) = some k) w1 w2 → K (a.put o.dst (.slice sa' (n + s.size) sc')) w2) :
    if Region.wanted o (yielded ops a.tmps) = true then Oper.wp P o a w1 K Q else E := by
  have hw : Region.wanted o (yielded ops a.tmps) = true := by simp [Region.wanted, hgd]
  rw [if_pos hw]
  obtain ⟨sa', sc', w2, hr, h2, h3⟩ := hR.str_run (P := P) t u o.type ht hu hi s hbytes
  unfold Oper.wp execOp
  simp only [ho, resolve, invoke, builtin, Sem.run_bind, Sem.run_pure, Result.andThen_ok, List.map_toArray, List.map_cons, List.map_nil, hs, hx, hr]
  exact h sa' sc' w2 h2 h3
/-- The bytes of a slice as numbers. -/
def bcells (l : List Nat) : List Value := l.map fun x : Nat => .int .u8 (x : Int)
theorem bcells_get (l : List Nat) (i : Nat) (h : i < l.length) : (bcells l)[i]? = some (.int .u8 ((l.getD i 0 : Nat) : Int)) := by
  simp [bcells, List.getElem?_eq_getElem h, List.getD]
theorem bcells_len (l : List Nat) : (bcells l).length = l.length := by simp [bcells]
theorem bcells_app (a b : List Nat) : bcells (a ++ b) = bcells a ++ bcells b := by simp [bcells]
theorem str_bcells (s : ByteArray) : strCells s = bcells (natsOf s.data.toList) := by
  unfold strCells bcells natsOf
  rw [List.map_map]
  rfl
/-- Setting a bit that is not set. -/
theorem or_bit_all : (List.range 8).all (fun k => (List.range (2 ^ k)).all fun a => bits .or .u8 (a : Int) (2 ^ k : Nat) == ((a + 2 ^ k : Nat) : Int)) = true := by kernel_rfl
theorem or_bit (k a : Nat) (hk : k < 8) (ha : a < 2 ^ k) : bits .or .u8 (a : Int) ((2 ^ k : Nat) : Int) = ((a + 2 ^ k : Nat) : Int) := by
  have h := List.all_eq_true.1 or_bit_all k (List.mem_range.2 hk)
  have h2 := List.all_eq_true.1 h a (List.mem_range.2 ha)
  simpa using h2
theorem RowB.nonnil {w wr : World} {T : TypeId} {n : Nat} {xs : List Value} {sa : Option Addr} {sc : Nat} (h : RowB w T 1 n xs sa sc wr) (hn : 0 < n) : ∃ g, sa = some ⟨g, 0, none⟩ ∧ w.heap.size ≤ g := by
  rcases h.o.2 with ⟨_, h0⟩ | ⟨g, cap, cur, hv, _⟩
  · omega
  · simp only [Value.slice.injEq, true_and] at hv
    exact ⟨g, hv.1, h.ob g (by rw [hv.1]; rfl)⟩
theorem RowB.store {w wr : World} {T : TypeId} {n g : Nat} {xs : List Value} {sc : Nat} (h : RowB w T 1 n xs (some ⟨g, 0, none⟩) sc wr) (j : Nat) (hj : j < n) (u : Value) : RowB w T 1 n (xs.set j u) (some ⟨g, 0, none⟩) sc (wr.setCell ⟨g, j, none⟩ u) :=
  ⟨(h.o.stored j u).1, h.ob, h.b.setCell (h.ob g rfl) u⟩
end Go.Proofs.YtgnoikfmhncbmaaGreatDoor
