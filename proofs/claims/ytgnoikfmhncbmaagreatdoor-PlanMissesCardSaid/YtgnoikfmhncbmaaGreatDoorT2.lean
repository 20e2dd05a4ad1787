/- Walks: Table, the table of the laws; plain: its columns and indexes. Walks: Table, the table of the laws. -/
import Derived.Test.YtgnoikfmhncbmaaGreatDoorS4
import Derived.Maps.Own
import Derived.Maps.OwnOps
import Derived.Maps.RangeWalk
import Derived.Deep.RegionLaw
set_option linter.unusedVariables false
set_option linter.unusedSimpArgs false
namespace Go.Proofs.YtgnoikfmhncbmaaGreatDoor
open Go.RowKit Go.Maps
def tyL : List Nat := [1, 2, 3, 1]
def colT (k : Nat) : CV := ⟨colN k, tyL.getD k 0, decide (k < 3), 1, ⟨tyL.getD k 0, decide (k < 3), 0, ⟨#[]⟩, false⟩⟩
def colsT (n : Nat) : List CV := (List.range n).map colT
theorem colsT_len (n : Nat) : (colsT n).length = n := by simp [colsT]
theorem colsT_succ (n : Nat) : colsT (n + 1) = colsT n ++ [colT n] := by simp [colsT, List.range_succ]
/-- The digits that are used. -/
def dg : Nat → Nat → List Nat → List Nat
  | 0, _, K => K
  | f + 1, n, K => if n = 0 then K else dg f (n / 5) (if 0 < n % 5 ∧ n % 5 ∉ K then K ++ [n % 5] else K)
def digD (n : Nat) : List Nat := dg 8 n []
def ixK (k : Nat) : IX := ⟨colN (k - 1), false⟩
structure DigOk (K : List Nat) : Prop where
  nd : K.Nodup
  r : ∀ k ∈ K, 1 ≤ k ∧ k ≤ 4
theorem DigOk.snoc {K : List Nat} {n : Nat} (h : DigOk K) (h1 : 0 < n % 5) (h2 : n % 5 ∉ K) : DigOk (K ++ [n % 5]) := by
  refine ⟨?_, fun k hk => ?_⟩
  · rw [List.nodup_append]
    refine ⟨h.nd, by simp, fun a ha b hb e => ?_⟩
    rw [List.mem_singleton.1 hb] at e
    subst e; exact h2 ha
  · rcases List.mem_append.1 hk with hk | hk
    · exact h.r k hk
    · rw [List.mem_singleton.1 hk]; omega
theorem dg_ok : ∀ (f n : Nat) (K : List Nat), DigOk K → DigOk (dg f n K)
  | 0, n, K, h => h
  | f + 1, n, K, h => by
    unfold dg
    split
    · exact h
    · refine dg_ok f _ _ ?_
      split
      · rename_i g; exact h.snoc g.1 g.2
      · exact h
theorem digD_ok (n : Nat) : DigOk (digD n) := dg_ok 8 n [] ⟨List.nodup_nil, fun k hk => by cases hk⟩
theorem nodup_len : ∀ (m : Nat) (K : List Nat), K.Nodup → (∀ k ∈ K, 1 ≤ k ∧ k ≤ m) → K.length ≤ m
  | 0, K, _, h => by
    cases K with
    | nil => exact Nat.le_refl _
    | cons k K => have := h k (by simp); omega
  | m + 1, K, hn, h => by
    have h1 := nodup_len m (K.erase (m + 1)) (hn.erase _) (fun k hk => by
      obtain ⟨g1, g2⟩ := (List.Nodup.mem_erase_iff hn).1 hk
      have := h k g2; omega)
    have h2 := List.length_erase (a := m + 1) (l := K)
    split at h2 <;> omega
theorem DigOk.len {K : List Nat} (h : DigOk K) : K.length ≤ 4 := nodup_len 4 K h.nd h.r
/-- The map of the digits seen. -/
def Rb : Value → Option (DataW Unit × List MemPlace)
  | .bool b => some (.lit (.bool b), [])
  | _ => none
theorem key16 : Keyed Tryz.prog 61 := int_keyed Tryz.underlying61
theorem wf_u16 {n : Nat} (h : n < 65536) : (Lit.int .u16 (n : Int)).wf = true := by
  simp only [Lit.wf, Bool.and_eq_true, decide_eq_true_eq]
  have e1 : IntKind.min .u16 = 0 := by decide
  have e2 : IntKind.max .u16 = 65535 := by decide
  rw [e1, e2]; omega
def SeenU (w : World) (b : Nat) (K : List Nat) : Prop :=
  ∃ D : DataW Unit, w.ownsMap Tryz.prog 61 Rb b K.length D ∧ IsMap D ∧ ∀ k : Nat, k < 65536 → D.atKey (.int .u16 k) (.lit (.bool false)) = .lit (.bool (decide (k ∈ K)))
theorem SeenU.only {S : Nat → Prop} {w w' : World} {b : Nat} {K : List Nat} (h : SeenU w b K) (ho : Only S w w') (hs : ¬ S b) : SeenU w' b K := by
  obtain ⟨D, h1, h2⟩ := h
  obtain ⟨es, cl, hb, r⟩ := h1
  exact ⟨D, ⟨es, cl, (ho.block b (heap_lt hb) hs).trans hb, r⟩, h2⟩
theorem SeenU.lt {w : World} {b : Nat} {K : List Nat} (h : SeenU w b K) : b < w.heap.size := by
  obtain ⟨D, h1, _⟩ := h; exact h1.lt
theorem SeenU.made (w : World) : SeenU (w.alloc (.map #[] 0)) w.heap.size [] :=
  ⟨.map [], World.ownsMap_made w _ _ _, isMap_empty, fun k hk => by first | rfl | simp [DataW.atKey]⟩
theorem SeenU.look {w : World} {b : Nat} {K : List Nat} (h : SeenU w b K) {k : Nat} (hk : k < 65536) : (Instr.lookup 109 (.map (some b)) (.int .u16 (k : Int)) false).run Tryz.prog w = .ok (.bool (decide (k ∈ K))) w := by
  obtain ⟨D, h1, h2, h3⟩ := h
  obtain ⟨v, ps, hr, hv⟩ := h1.lookup key16 Tryz.underlying109 (z := .bool false) (by kernel_rfl) (zd := .lit (.bool false)) (zp := []) rfl (keyOf_int_mk Tryz.underlying61 (wf_u16 hk))
  rw [h3 k hk] at hv
  rw [hr]
  cases v with
  | bool b => simp [Rb] at hv; rw [hv.1]
  | _ => simp [Rb] at hv
theorem SeenU.put {w : World} {b : Nat} {K : List Nat} (h : SeenU w b K) (hl : K.length ≤ 100) {k : Nat} (hk : k < 65536) : ∃ w', (Instr.mapUpdate 109 (.map (some b)) (.int .u16 (k : Int)) (.bool true)).run Tryz.prog w = .ok () w' ∧ SeenU w' b (K ++ [k]) ∧ Only (fun j => j = b) w w' := by
  obtain ⟨D, h1, h2, h3⟩ := h
  have hkey := keyOf_int_mk (P := Tryz.prog) Tryz.underlying61 (wf_u16 hk)
  obtain ⟨w', hr, hw, hg⟩ := h1.update key16 Tryz.underlying109 (by unfold maxLen; omega) (val := .bool true) (d := .lit (.bool true)) (ps := []) hkey rfl
  refine ⟨w', hr, ⟨_, by rw [List.length_append]; exact hw, h2.put _ _, fun j hj => ?_⟩, (Only.of_grown hg).mono (fun j _ e => by simpa using e)⟩
  by_cases he : j = k
  · subst he
    rw [atKey_put_same h2 (key16.key hkey)]
    simp
  · rw [atKey_put_other (by intro h; injection h with _ h; omega), h3 j hj]
    simp [he]
end Go.Proofs.YtgnoikfmhncbmaaGreatDoor

namespace Go.Proofs.YtgnoikfmhncbmaaGreatDoor
open Go.RowKit
theorem step_appN {P : Program} {w : World} {ops : Array Oper} {o : Oper} {a : Act} {K : Act → World → Prop} {Q : Exit → Act → World → Prop} {E : Prop} (hgd : o.guard = none) (s x : Operand) (t : TypeId)
    (ho : o.op = .call { callee := .builtin .append, args := #[s, x], argTypes := #[t, t] })
    (e : TypeId) (z : Value) (size bytes : Nat) (ht : P.underlying t = some (.slice e))
    (hi : (P.info? e).map (fun i => (i.zero, i.size, i.bytes)) = some (some z, size, bytes)) (hzs : z.cells.size = size) (hsz : 0 < size) (hby : 0 < bytes)
    (sa : Option Addr) (n cap : Nat) (xs : List Value) (hown : w.ownsRow 0 e size (.slice sa n cap) n xs) (hs : a.eval s = .slice sa n cap)
    (ad : Addr) (m c : Nat) (news : List Value) (hx : a.eval x = .slice (some ad) m c) (hl : news.length = m * size) (hnews : ∀ j u, news[j]? = some u → w.cell? (ad.add j) = some u) (h1 : ∀ u ∈ news, u.oneCell' = true)
    (hbytes : (n + m) * bytes ≤ 140737488355328)
    (h : ∀ sa' cap' w', w'.ownsRow 0 e size (.slice sa' (n + m) cap') (n + m) (xs ++ news) → Only (fun k => Value.ownBlock (.slice sa n cap) = some k) w w' →
      (∀ k, Value.ownBlock (.slice sa' (n + m) cap') = some k → Value.ownBlock (.slice sa n cap) = some k ∨ w.heap.size ≤ k) → K (a.put o.dst (.slice sa' (n + m) cap')) w') :
    if Region.wanted o (yielded ops a.tmps) = true then Oper.wp P o a w K Q else E := by
  have hw : Region.wanted o (yielded ops a.tmps) = true := by simp [Region.wanted, hgd]
  rw [if_pos hw]
  obtain ⟨sa', cap', w', hr, h2, h3, h4⟩ := app_run (P := P) w t o.type e z size bytes ht hi hzs hsz hby sa n cap xs hown ad m c news hl hnews h1 hbytes
  unfold Oper.wp execOp
  simp only [ho, resolve, invoke, builtin, Sem.run_bind, Sem.run_pure, Result.andThen_ok, List.map_toArray, List.map_cons, List.map_nil, hs, hx, hr]
  exact h sa' cap' w' h2 h3 h4
theorem infoIdx : (Tryz.prog.info? 111).map (fun i => (i.zero, i.size, i.bytes)) = some (some (.agg #[.string ByteArray.empty, .bool false]), 2, 24) := by kernel_rfl
/-- The table with its columns; its indexes and the digits seen so far. -/
structure TabX (w : World) (bm : Nat) (Ks K : List Nat) (sa : Option Addr) (sc : Nat) (ia : Option Addr) (ic : Nat) (wr : World) : Prop where
  t : Has wr (w.heap.size + 1) [.string tagS, .int .i64 ((1 : Nat) : Int), .slice sa 4 sc, .slice ia K.length ic, .int .u64 0, .int .u64 0] 59
  z : Has wr w.heap.size [.string ⟨#[]⟩, .int .i64 0, .slice none 0 0, .slice none 0 0, .int .u64 0, .int .u64 0] 59
  o : wr.ownsRow 0 108 9 (.slice sa 4 sc) 4 (cCells (colsT 4))
  ob : ∀ j, ownB (.slice sa 4 sc) j → w.heap.size + 3 ≤ j
  oi : wr.ownsRow 0 111 2 (.slice ia K.length ic) K.length (ixCells (K.map ixK))
  oj : ∀ j, ownB (.slice ia K.length ic) j → w.heap.size + 3 ≤ j ∧ j ≠ bm ∧ ¬ ownB (.slice sa 4 sc) j
  s : SeenU wr bm Ks
  sb : w.heap.size + 3 ≤ bm ∧ ¬ ownB (.slice sa 4 sc) bm
  b : Below w.heap.size w wr
section
variable {w wr w2 : World} {bm : Nat} {Ks K : List Nat} {sa : Option Addr} {sc : Nat} {ia : Option Addr} {ic : Nat}
theorem TabX.below (h : TabX w bm Ks K sa sc ia ic wr) (hb : Below wr.heap.size wr w2) : TabX w bm Ks K sa sc ia ic w2 :=
  ⟨h.t.only (Only.of_below hb) (Nat.not_le.2 h.t.lt), h.z.only (Only.of_below hb) (Nat.not_le.2 h.z.lt), ownsRow_only h.o (Only.of_below hb) (fun k hk e => by have := ownsRow_lt h.o hk; omega), h.ob,
    ownsRow_only h.oi (Only.of_below hb) (fun k hk e => by have := ownsRow_lt h.oi hk; omega), h.oj, h.s.only (Only.of_below hb) (Nat.not_le.2 h.s.lt), h.sb, h.b.trans (hb.mono h.b.size)⟩
theorem TabX.putS {Ks2 : List Nat} (h : TabX w bm Ks K sa sc ia ic wr) (hs : SeenU w2 bm Ks2) (ho : Only (fun j => j = bm) wr w2) : TabX w bm Ks2 K sa sc ia ic w2 := by
  have hb := h.sb
  exact ⟨h.t.only ho (by omega), h.z.only ho (by omega), ownsRow_only h.o ho (fun k hk e => hb.2 (by rw [← e]; exact hk)), h.ob, ownsRow_only h.oi ho (fun k hk e => (h.oj k hk).2.1 e), h.oj, hs, hb, h.b.trans (ho.below h.b.size (fun k _ e => by omega))⟩
theorem TabX.app {k : Nat} {ia' : Option Addr} {ic' : Nat} {w1 : World} (h : TabX w bm Ks K sa sc ia ic w1) (own : w2.ownsRow 0 111 2 (.slice ia' (K.length + 1) ic') (K.length + 1) (ixCells (K.map ixK) ++ (ixK k).cells))
    (only : Only (fun j => Value.ownBlock (.slice ia K.length ic) = some j) w1 w2) (fresh : ∀ j, Value.ownBlock (.slice ia' (K.length + 1) ic') = some j → Value.ownBlock (.slice ia K.length ic) = some j ∨ w1.heap.size ≤ j) :
    TabX w bm Ks (K ++ [k]) sa sc ia' ic' (w2.setCell ⟨w.heap.size + 1, 3, none⟩ (.slice ia' (K.length + 1) ic')) := by
  have hlt := h.t.lt
  have hsl := h.s.lt
  have hbs := h.b.size
  have hoj : ∀ j, Value.ownBlock (.slice ia' (K.length + 1) ic') = some j → w.heap.size + 3 ≤ j ∧ j ≠ bm ∧ ¬ ownB (.slice sa 4 sc) j := fun j hj => by
    rcases fresh j hj with h1 | h1
    · exact h.oj j h1
    · refine ⟨?_, by omega, fun e => by have := ownsRow_lt h.o e; omega⟩
      have := h.sb.1
      omega
  have ht2 := h.t.only only (fun e => by have := (h.oj _ e).1; omega)
  have hz2 := h.z.only only (fun e => by have := (h.oj _ e).1; omega)
  have ho2 := ownsRow_only h.o only (fun j hj e => (h.oj j e).2.2 hj)
  have hs2 := h.s.only only (fun e => (h.oj _ e).2.1 rfl)
  have hO : Only (fun j => j = w.heap.size + 1) w2 (w2.setCell ⟨w.heap.size + 1, 3, none⟩ (.slice ia' (K.length + 1) ic')) := Only.setCell (S := fun j => j = w.heap.size + 1) (Only.refl _ _) (a := ⟨w.heap.size + 1, 3, none⟩) (fun _ => rfl) _
  have hl : (K ++ [k]).length = K.length + 1 := by simp
  refine ⟨by rw [hl]; exact ht2.set 3 _, hz2.set_ne (by show w.heap.size ≠ w.heap.size + 1; omega) _, ownsRow_only ho2 hO (fun j hj e => by have := h.ob j hj; omega), h.ob, ?_, by rw [hl]; exact hoj, hs2.only hO (by have := h.sb.1; omega), h.sb, ?_⟩
  · rw [hl, List.map_append, List.map_singleton, ix_snoc]
    exact ownsRow_only own hO (fun j hj e => by have := (hoj j hj).1; omega)
  · exact (h.b.trans (only.below (B := w.heap.size) h.b.size (fun j _ e => by have := (h.oj j e).1; omega))).setCell (by show w.heap.size ≤ w.heap.size + 1; omega) _
end
def TabP (n : Nat) (w : World) (e : Ending) (w' : World) : Prop := ∃ ca cc ia ic, e = .returned (tabI tagS 1 ca 4 cc ia (digD n).length ic) ∧ Rd w' (.slice ca 4 cc) 4 (cCells (colsT 4)) ∧ Rd w' (.slice ia (digD n).length ic) (digD n).length (ixCells ((digD n).map ixK)) ∧ Below w.heap.size w w'
def TabN (n : Nat) (w : World) (e : Ending) (w' : World) : Prop := ∃ ca cc ia ic, e = .returned (tabI tagS 1 ca 4 cc ia (digD n).length ic) ∧ Rd w' (.slice ca 4 cc) 4 (cCells (colsT 4)) ∧ Rd w' (.slice ia (digD n).length ic) (digD n).length (ixCells ((digD n).map ixK)) ∧ Below w.heap.size w w' ∧
  (∀ j, Value.ownBlock (.slice ca 4 cc) = some j → w.heap.size ≤ j) ∧ ∀ j, Value.ownBlock (.slice ia (digD n).length ic) = some j → w.heap.size ≤ j
set_option maxHeartbeats 4000000 in
set_option maxRecDepth 100000 in
theorem table_new (n : Nat) (hn : n < 65536) (w : World) : Calls Tryz.prog 17 #[.int .u16 (n : Int)] w (TabN n w) := by
  generalize hpost : TabN n w = post
  replace hpost := Lib.hid hpost
  obtain ⟨W1, hW1⟩ : ∃ W1, W1 = (w.alloc (.cells #[.string ⟨#[]⟩, .int .i64 0, .slice none 0 0, .slice none 0 0, .int .u64 0, .int .u64 0] 59)).alloc (.cells #[.string tagS, .int .i64 1, .slice none 0 0, .slice none 0 0, .int .u64 0, .int .u64 0] 59) := ⟨_, rfl⟩
  have hb1 : Below w.heap.size w W1 := by rw [hW1]; exact ((Below.refl _ _).alloc (Nat.le_refl _) _).alloc (by simp) _
  have hs1 : W1.heap.size = w.heap.size + 2 := by rw [hW1]; simp
  have HZ : Has W1 w.heap.size [.string ⟨#[]⟩, .int .i64 0, .slice none 0 0, .slice none 0 0, .int .u64 0, .int .u64 0] 59 := by rw [hW1]; exact (Has.new w _ _).alloc _
  have HT : Has W1 (w.heap.size + 1) [.string tagS, .int .i64 ((1 : Nat) : Int), .slice none 0 0, .slice none 0 0, .int .u64 0, .int .u64 0] 59 := by
    have := Has.new (w.alloc (.cells #[.string ⟨#[]⟩, .int .i64 0, .slice none 0 0, .slice none 0 0, .int .u64 0, .int .u64 0] 59)) [.string tagS, .int .i64 ((1 : Nat) : Int), .slice none 0 0, .slice none 0 0, .int .u64 0, .int .u64 0] 59
    simp only [World.size_alloc] at this
    rw [hW1]; exact this
  have hS1 : TabS w 1 [] 0 none 0 W1 := ⟨rfl, HT, HZ, ⟨rfl, .inl ⟨rfl, rfl⟩⟩, (fun j hj => by cases hj), hb1⟩
  obtain ⟨W2, hW2⟩ : ∃ W2, W2 = W1.alloc (.cells #[.int .u8 1, .int .u8 2, .int .u8 3, .int .u8 1] 26) := ⟨_, rfl⟩
  have hb2 : Below W1.heap.size W1 W2 := by rw [hW2]; exact (Below.refl _ _).alloc (Nat.le_refl _) _
  have HY : Has W2 (w.heap.size + 2) [.int .u8 1, .int .u8 2, .int .u8 3, .int .u8 1] 26 := by
    have := Has.new W1 [.int .u8 1, .int .u8 2, .int .u8 3, .int .u8 1] 26
    rw [hs1] at this; rw [hW2]; exact this
  have hS2 := hS1.below hb2
  clear HZ HT hS1 hb2
  replace hW1 := Lib.hid hW1.symm
  replace hW2 := Lib.hid hW2.symm
  replace hs1 := Lib.hid hs1
  go_enter Tryz.func17, Tryz.ntmps17
  go_wp2_with fail
  rw [show (((w.alloc (.cells #[.string ⟨#[]⟩, .int .i64 0, .slice none 0 0, .slice none 0 0, .int .u64 0, .int .u64 0] 59)).alloc (.cells #[.string ⟨#[116]⟩, .int .i64 1, .slice none 0 0, .slice none 0 0, .int .u64 0, .int .u64 0] 59)).alloc (.cells #[.int .u8 1, .int .u8 2, .int .u8 3, .int .u8 1] 26)) = W2 from by rw [← hW2.out, ← hW1.out]; rfl]
  go_loopw [13] (fun iv wr => ∃ (k : Nat) (sa : Option Addr) (sc : Nat), k ≤ 4 ∧ iv = .int .i64 (k : Int) ∧ TabS w 1 (colsT k) k sa sc wr ∧ Has wr (w.heap.size + 2) [.int .u8 1, .int .u8 2, .int .u8 3, .int .u8 1] 26 ∧ ∀ j, Value.ownBlock (.slice sa k sc) = some j → w.heap.size + 3 ≤ j) (fun iv _ => 4 - (RowKit.intOf iv).toNat)
  case atStart => exact ⟨0, none, 0, by omega, rfl, hS2, HY, fun j hj => by cases hj⟩
  case round =>
    clear hS2 HY
    obtain ⟨k, sa, sc, hk, rfl, hS, hY, hob⟩ := hrel
    by_cases hlt : k < 4
    · have k1 : (k : Int) < 4 := by omega
      have k0 : (0 : Int) ≤ (k : Int) := by omega
      have kd : decide ((k : Int) < 4) = true := decide_eq_true k1
      have cY := hY.cell (o := k) (v := .int .u8 ((tyL.getD k 0 : Nat) : Int)) (by
        have : k = 0 ∨ k = 1 ∨ k = 2 ∨ k = 3 := by omega
        rcases this with rfl | rfl | rfl | rfl <;> rfl)
      have hcl := column_any k (by omega) wr
      have kw : (k : Int) % 256 = (k : Int) := by omega
      obtain ⟨b3, hb3⟩ : ∃ b3, decide (k < 3) = b3 := ⟨_, rfl⟩
      have hb3' : decide ((k : Int) < 3) = b3 := by rw [← hb3]; congr 1; exact propext (by omega)
      have hcol : colT k = ⟨colN k, tyL.getD k 0, b3, 1, ⟨tyL.getD k 0, b3, 0, ⟨#[]⟩, false⟩⟩ := by rw [colT, hb3]
      obtain ⟨cn, hcn⟩ : ∃ cn, colN k = cn := ⟨_, rfl⟩
      obtain ⟨ty, hty⟩ : ∃ ty, tyL.getD k 0 = ty := ⟨_, rfl⟩
      rw [hcn] at hcl hcol
      rw [hty] at cY hcol
      replace hcol := Lib.hid hcol
      replace hcn := Lib.hid hcn
      replace hty := Lib.hid hty
      replace hcl := Lib.hid hcl
      replace hS := Lib.hid hS
      replace hY := Lib.hid hY
      replace hob := Lib.hid hob
      replace kw := Lib.hid kw
      replace hb3 := Lib.hid hb3
      go_wp2_with fail
      refine hcl.out.mono ?_
      rintro e w3 ⟨rfl, hB3⟩
      obtain ⟨W4, hW4⟩ : ∃ W4, W4 = w3.alloc (.cells #[.string cn, .int .u8 (ty : Int), .bool b3, .int .i64 1, .int .u8 (ty : Int), .bool b3, .int .i64 0, .string ⟨#[]⟩, .bool false] 108) := ⟨_, rfl⟩
      have hB4 : Below w3.heap.size w3 W4 := by rw [hW4]; exact (Below.refl _ _).alloc (Nat.le_refl _) _
      have hN4 : Has W4 w3.heap.size [.string cn, .int .u8 (ty : Int), .bool b3, .int .i64 1, .int .u8 (ty : Int), .bool b3, .int .i64 0, .string ⟨#[]⟩, .bool false] 108 := by rw [hW4]; exact Has.new w3 _ _
      have hS4 := (hS.out.below hB3).below hB4
      have hY4 := (hY.out.only (Only.of_below hB3) (Nat.not_le.2 hY.out.lt)).only (Only.of_below hB4) (Nat.not_le.2 (hY.out.only (Only.of_below hB3) (Nat.not_le.2 hY.out.lt)).lt)
      have p0 := hN4.cell (o := 0) rfl
      have p1 := hN4.cell (o := 1) rfl
      have p2 := hN4.cell (o := 2) rfl
      have p3 := hN4.cell (o := 3) rfl
      have p4 := hN4.cell (o := 4) rfl
      have p5 := hN4.cell (o := 5) rfl
      have p6 := hN4.cell (o := 6) rfl
      have p7 := hN4.cell (o := 7) rfl
      have p8 := hN4.cell (o := 8) rfl
      have t2 := hS4.t.cell (o := 2) rfl
      have hz4 : W4.heap.size = w3.heap.size + 1 := by rw [hW4]; simp
      have hz3 := hB3.size
      have hS5 := hS4.below ((Below.refl W4.heap.size W4).alloc (Nat.le_refl _) (.cells #[.string cn, .int .u8 (ty : Int), .bool b3, .int .i64 1, .int .u8 (ty : Int), .bool b3, .int .i64 0, .string ⟨#[]⟩, .bool false] 108))
      have hN5 := Has.new W4 [.string cn, .int .u8 (ty : Int), .bool b3, .int .i64 1, .int .u8 (ty : Int), .bool b3, .int .i64 0, .string ⟨#[]⟩, .bool false] 108
      have hY5 := hY4.alloc (.cells #[.string cn, .int .u8 (ty : Int), .bool b3, .int .i64 1, .int .u8 (ty : Int), .bool b3, .int .i64 0, .string ⟨#[]⟩, .bool false] 108)
      have hby : (k + 1) * 72 ≤ 140737488355328 := by omega
      have ho5 := hS5.o
      have hwl := hS4.t.lt
      have hobl : ∀ j, Value.ownBlock (.slice sa k sc) = some j → w.heap.size + 2 ≤ j := hS4.ob
      have hT5 := hS5.t
      have ft2 : ∀ w2, Only (fun j => Value.ownBlock (.slice sa k sc) = some j) (W4.alloc (.cells #[.string cn, .int .u8 (ty : Int), .bool b3, .int .i64 1, .int .u8 (ty : Int), .bool b3, .int .i64 0, .string ⟨#[]⟩, .bool false] 108)) w2 → w2.frozen? ⟨w.heap.size + 1, 2, none⟩ = false ∧ w2.cell? ⟨w.heap.size + 1, 2, none⟩ = some (.slice sa k sc) := by
        intro w2 ho
        have := hT5.only ho (fun e => by have := hobl _ e; omega)
        exact ⟨this.free 2, this.cell (o := 2) rfl⟩
      have hYl := hY5.lt
      replace hS5 := Lib.hid hS5
      replace ft2 := Lib.hid ft2
      replace hW4 := Lib.hid hW4.symm
      replace hz4 := Lib.hid hz4
      replace hY5 := Lib.hid hY5
      clear hS4 hB4 hB3 hN4 hT5 hobl hY4 cY
      go_upto_region 6 with fail
      rw [hW4.out]
      go_wp2_with (at_builtin; refine wpList_app rfl (.tmp 30) (.tmp 32) 54 rfl 108 (.agg #[.string ByteArray.empty, .int .u8 0, .bool false, .int .i64 0, .int .u8 0, .bool false, .int .i64 0, .string ByteArray.empty, .bool false]) 9 72 Tryz.underlying54 infoColB rfl (by decide) (by decide) sa k sc (cCells (colsT k)) (by exact ho5) rfl _ 1 1 [.string cn, .int .u8 (ty : Int), .bool b3, .int .i64 1, .int .u8 (ty : Int), .bool b3, .int .i64 0, .string ⟨#[]⟩, .bool false] rfl rfl (by exact news_at hN5) (by simp [Value.oneCell']) (by exact hby) ?_)
      intro sa' sc' w2 own2 only2 fresh2
      obtain ⟨g1, g2⟩ := ft2.out w2 only2
      have hS6 := TabS.app (c := ⟨cn, ty, b3, 1, ⟨ty, b3, 0, ⟨#[]⟩, false⟩⟩) hS5.out own2 only2 (by simpa using fresh2)
      rw [← hcol.out, ← colsT_succ] at hS6
      have hY6 := (hY5.out.only only2 (fun e => by have := hob.out _ e; omega)).set_ne (a := ⟨w.heap.size + 1, 2, none⟩) (by show w.heap.size + 2 ≠ w.heap.size + 1; omega) (.slice sa' (k + 1) sc')
      have hob6 : ∀ j, Value.ownBlock (.slice sa' (k + 1) sc') = some j → w.heap.size + 3 ≤ j := fun j hj => by
        rcases fresh2 j hj with h | h
        · exact hob.out j h
        · (try simp only [World.size_alloc] at h); omega
      replace hS6 := Lib.hid hS6
      replace hY6 := Lib.hid hY6
      replace hob6 := Lib.hid hob6
      clear own2 only2 fresh2 hN5 ho5 p0 p1 p2 p3 p4 p5 p6 p7 p8 t2
      go_wp2_with fail
      go_roundw
      case rel => exact ⟨k + 1, sa', sc', by omega, by go_num, hS6.out, hY6.out, hob6.out⟩
      case measure => simp [RowKit.intOf]; omega
    · obtain rfl : k = 4 := by omega
      have k1 : decide (((4 : Nat) : Int) < 4) = false := rfl
      have hzr := hS.z.lt
      have htr := hS.t.lt
      have hyr := hY.lt
      obtain ⟨W3, hW3⟩ : ∃ W3, W3 = wr.alloc (.map #[] 0) := ⟨_, rfl⟩
      have hb3 : Below wr.heap.size wr W3 := by rw [hW3]; exact (Below.refl _ _).alloc (Nat.le_refl _) _
      have hS3 := hS.below hb3
      have hX : TabX w wr.heap.size [] [] sa sc none 0 W3 := ⟨hS3.t, hS3.z, hS3.o, hob, ⟨rfl, .inl ⟨rfl, rfl⟩⟩, (fun j hj => by cases hj), by rw [hW3]; exact SeenU.made wr, ⟨by omega, fun e => by have := ownsRow_lt hS.o e; omega⟩, hS3.b⟩
      obtain ⟨bm, hbm⟩ : ∃ bm, bm = wr.heap.size := ⟨_, rfl⟩
      rw [← hbm] at hX
      have hmm := @run_makeMap Tryz.prog
      clear hS hY hS3 hb3 hzr htr hyr hob
      replace hW3 := Lib.hid hW3.symm
      go_wp2_with fail
      rw [hW3.out]
      rw [← hbm]
      replace hbm := Lib.hid hbm
      clear hmm
      go_loopw [8] (fun nv wr => ∃ (f n' : Nat) (K : List Nat) (ia : Option Addr) (ic : Nat), nv = .int .u16 (n' : Int) ∧ n' < 65536 ∧ n' < 5 ^ f ∧ dg f n' K = digD n ∧ DigOk K ∧ TabX w bm K K sa sc ia ic wr) (fun nv _ => (RowKit.intOf nv).toNat)
      case atStart => exact ⟨8, n, [], none, 0, rfl, hn, by omega, rfl, ⟨List.nodup_nil, fun k hk => by cases hk⟩, hX⟩
      case round =>
        clear hX
        obtain ⟨f, n', K, ia, ic, rfl, hn1, hn2, hdg, hK, hX⟩ := hrel
        by_cases h0 : n' = 0
        · subst h0
          have hKd : K = digD n := by rw [← hdg]; cases f <;> simp [dg]
          have t0 := hX.t.cell (o := 0) rfl
          have t1 := hX.t.cell (o := 1) rfl
          have t2 := hX.t.cell (o := 2) rfl
          have t3 := hX.t.cell (o := 3) rfl
          have t4 := hX.t.cell (o := 4) rfl
          have t5 := hX.t.cell (o := 5) rfl
          have z0 := hX.z.free 0
          have z1 := hX.z.free 1
          have z2 := hX.z.free 2
          have z3 := hX.z.free 3
          have z4 := hX.z.free 4
          have z5 := hX.z.free 5
          have y0 := hX.z.cell (o := 0) rfl
          have y1 := hX.z.cell (o := 1) rfl
          have y2 := hX.z.cell (o := 2) rfl
          have y3 := hX.z.cell (o := 3) rfl
          have y4 := hX.z.cell (o := 4) rfl
          have y5 := hX.z.cell (o := 5) rfl
          obtain ⟨m, hm⟩ : ∃ m, K.length = m := ⟨_, rfl⟩
          obtain ⟨wz, hwz⟩ : ∃ wz, wz = (((((wr.setCell ⟨w.heap.size, 0, none⟩ (.string tagS)).setCell ⟨w.heap.size, 1, none⟩ (.int .i64 1)).setCell ⟨w.heap.size, 2, none⟩ (.slice sa 4 sc)).setCell ⟨w.heap.size, 3, none⟩ (.slice ia K.length ic)).setCell ⟨w.heap.size, 4, none⟩ (.int .u64 0)).setCell ⟨w.heap.size, 5, none⟩ (.int .u64 0) := ⟨_, rfl⟩
          have hZz : Has wz w.heap.size [.string tagS, .int .i64 1, .slice sa 4 sc, .slice ia K.length ic, .int .u64 0, .int .u64 0] 59 := by
            rw [hwz]; exact (((((hX.z.set 0 _).set 1 _).set 2 _).set 3 _).set 4 _).set 5 _
          have hOz : Only (fun j => j = w.heap.size) wr wz := by
            rw [hwz]
            exact ((((((Only.refl (fun j => j = w.heap.size) wr).setCell (a := ⟨w.heap.size, 0, none⟩) (fun _ => rfl) _).setCell (a := ⟨w.heap.size, 1, none⟩) (fun _ => rfl) _).setCell (a := ⟨w.heap.size, 2, none⟩) (fun _ => rfl) _).setCell (a := ⟨w.heap.size, 3, none⟩) (fun _ => rfl) _).setCell (a := ⟨w.heap.size, 4, none⟩) (fun _ => rfl) _).setCell (a := ⟨w.heap.size, 5, none⟩) (fun _ => rfl) _
          have hfin : post (.returned (tabI tagS 1 sa 4 sc ia K.length ic)) wz := by
            rw [← hpost.out, hKd]
            refine ⟨sa, sc, ia, ic, rfl, ?_, ?_, hX.b.trans (hOz.below (B := w.heap.size) hX.b.size (fun j _ e => by omega)), fun j hj => by have := hX.ob j hj; omega, fun j hj => by rw [← hKd] at hj; have := (hX.oj j hj).1; omega⟩
            · exact Rd.of_own (ownsRow_only hX.o hOz (fun j hj e => by have := hX.ob j hj; omega))
            · have := Rd.of_own (ownsRow_only hX.oi hOz (fun j hj e => by have := (hX.oj j hj).1; omega))
              rw [hKd] at this; exact this
          have q0 := hZz.cell (o := 0) rfl
          have q1 := hZz.cell (o := 1) rfl
          have q2 := hZz.cell (o := 2) rfl
          have q3 := hZz.cell (o := 3) rfl
          have q4 := hZz.cell (o := 4) rfl
          have q5 := hZz.cell (o := 5) rfl
          replace hfin := Lib.hid hfin
          rw [hwz] at q0 q1 q2 q3 q4 q5 hfin
          replace q0 := Lib.hid q0
          replace q1 := Lib.hid q1
          replace q2 := Lib.hid q2
          replace q3 := Lib.hid q3
          replace q4 := Lib.hid q4
          replace q5 := Lib.hid q5
          clear hZz hOz hX hwz hdg hK hKd
          replace hm := Lib.hid hm
          go_wp2_with fail
          refine bodyPost_ret (v := tabI tagS 1 sa 4 sc ia K.length ic) (by simp [results, Tryz.results17, go_sem, q0.out, q1.out, q2.out, q3.out, q4.out, q5.out]) rfl hfin.out
        · obtain ⟨f, rfl⟩ : ∃ f', f = f' + 1 := by
            cases f with
            | zero => simp at hn2; omega
            | succ f' => exact ⟨f', rfl⟩
          have hm : n' % 5 < 5 := Nat.mod_lt _ (by decide)
          rw [dg, if_neg h0] at hdg
          have ht5 : (n' : Int).tmod 5 = ((n' % 5 : Nat) : Int) := rfl
          have hd5 : (n' : Int).tdiv 5 = ((n' / 5 : Nat) : Int) := rfl
          have hn0 : decide ((0 : Int) < (n' : Int)) = true := decide_eq_true (by omega)
          have hlt5 : n' / 5 < 65536 ∧ n' / 5 < 5 ^ f := ⟨by omega, by rw [Nat.div_lt_iff_lt_mul (by decide), ← Nat.pow_succ]; exact hn2⟩
          have hmeas : n' / 5 < n' := Nat.div_lt_self (by omega) (by decide)
          generalize n' / 5 = q at *
          generalize n' % 5 = d at *
          have hwq : IntKind.u16.wrap (q : Int) = (q : Int) := by
            have h1 : (q : Int) % (2 ^ IntKind.u16.bits : Int) = (q : Int) := Int.emod_eq_of_lt (by omega) (by show (q : Int) < 65536; omega)
            unfold IntKind.wrap
            rw [h1]; rfl
          have hlook := hX.s.look (k := d) (by omega)
          replace hmeas := Lib.hid hmeas
          replace hlt5 := Lib.hid hlt5
          replace hn2 := Lib.hid hn2
          by_cases hd0 : d = 0
          · have e0 : decide ((0 : Int) < (d : Int)) = false := decide_eq_false (by omega)
            rw [if_neg (by omega)] at hdg
            replace hdg := Lib.hid hdg
            replace hX := Lib.hid hX
            replace hK := Lib.hid hK
            clear hlook
            go_wp2_with fail
            go_roundw
            case rel => first | exact ⟨f, q, K, ia, ic, rfl, hlt5.out.1, hlt5.out.2, hdg.out, hK.out, hX.out⟩ | ((repeat apply Exists.intro); exact ⟨⟨f, q, K, ia, ic, rfl, hlt5.out.1, hlt5.out.2, hdg.out, hK.out, hX.out⟩, rfl⟩)
            case measure => have := hmeas.out; simp [RowKit.intOf]; omega
          · have e0 : decide ((0 : Int) < (d : Int)) = true := decide_eq_true (by omega)
            by_cases hdK : d ∈ K
            · rw [decide_eq_true hdK] at hlook
              rw [if_neg (fun h => h.2 hdK)] at hdg
              replace hdg := Lib.hid hdg
              replace hX := Lib.hid hX
              replace hK := Lib.hid hK
              replace hdK := Lib.hid hdK
              go_wp2_with fail
              go_roundw
              case rel => first | exact ⟨f, q, K, ia, ic, rfl, hlt5.out.1, hlt5.out.2, hdg.out, hK.out, hX.out⟩ | ((repeat apply Exists.intro); exact ⟨⟨f, q, K, ia, ic, rfl, hlt5.out.1, hlt5.out.2, hdg.out, hK.out, hX.out⟩, rfl⟩)
              case measure => have := hmeas.out; simp [RowKit.intOf]; omega
            · rw [decide_eq_false hdK] at hlook
              rw [if_pos ⟨by omega, hdK⟩] at hdg
              have hKl := hK.len
              have hKok := hK
              have hcl := fun w => column_any (d - 1) (by omega) w
              obtain ⟨w3, hr3, hS3, hO3⟩ := hX.s.put (by omega) (k := d) (by omega)
              have hX3 := hX.putS hS3 hO3
              have hdg2 : DigOk (K ++ [d]) := ⟨by rw [List.nodup_append]; exact ⟨hK.nd, by simp, fun a ha b hb e => by rw [List.mem_singleton.1 hb] at e; subst e; exact hdK ha⟩, fun j hj => by
                rcases List.mem_append.1 hj with hj | hj
                · exact hK.r j hj
                · rw [List.mem_singleton.1 hj]; omega⟩
              have t3 := hX3.t.cell (o := 3) rfl
              have hd1 : ((d : Int) - 1) = ((d - 1 : Nat) : Int) := by omega
              obtain ⟨cn, hcn⟩ : ∃ cn, colN (d - 1) = cn := ⟨_, rfl⟩
              rw [hcn] at hcl
              have hixk : (ixK d).cells = [.string cn, .bool false] := by rw [ixK, hcn]; rfl
              generalize d - 1 = d1 at *
              replace hr3 := Lib.hid hr3
              replace hdg := Lib.hid hdg
              replace hdg2 := Lib.hid hdg2
              replace hX3 := Lib.hid hX3
              replace hcl := Lib.hid hcl
              replace hixk := Lib.hid hixk
              replace hcn := Lib.hid hcn
              replace hKok := Lib.hid hKok
              clear hX hS3 hO3 hK hdK
              go_upto_region 15 with (refine wpList_updateM rfl (.tmp 52) (.tmp 53) _ 109 rfl hr3.out ?_)
              clear hlook
              simp only [Act.put]
              have hwd : IntKind.u16.wrap (d1 : Int) = (d1 : Int) := by
                have h1 : (d1 : Int) % (2 ^ IntKind.u16.bits : Int) = (d1 : Int) := Int.emod_eq_of_lt (by omega) (by show (d1 : Int) < 65536; omega)
                unfold IntKind.wrap
                rw [h1]; rfl
              have hwe : IntKind.u8.wrap (d1 : Int) = (d1 : Int) := by
                have h1 : (d1 : Int) % (2 ^ IntKind.u8.bits : Int) = (d1 : Int) := Int.emod_eq_of_lt (by omega) (by show (d1 : Int) < 256; omega)
                unfold IntKind.wrap
                rw [h1]; rfl
              have hXd := hX3.out.below (Below.drew (Below.refl w3.heap.size w3))
              replace hXd := Lib.hid hXd
              have hby : (K.length + 1) * 24 ≤ 140737488355328 := by omega
              have hct : ∀ w4, Below w3.drew.heap.size w3.drew w4 → w4.cell? ⟨w.heap.size + 1, 3, none⟩ = some (.slice ia K.length ic) ∧ TabX w bm (K ++ [d]) K sa sc ia ic (w4.alloc (.cells #[.string cn, .bool false] 111)) := fun w4 hb => by
                have h4 := hXd.out.below hb
                exact ⟨h4.t.cell (o := 3) rfl, h4.below ((Below.refl _ _).alloc (Nat.le_refl _) _)⟩
              have hft : ∀ w5 w6, TabX w bm (K ++ [d]) K sa sc ia ic w5 → Only (fun j => Value.ownBlock (.slice ia K.length ic) = some j) w5 w6 → w6.frozen? ⟨w.heap.size + 1, 3, none⟩ = false ∧ w6.cell? ⟨w.heap.size + 1, 3, none⟩ = some (.slice ia K.length ic) := fun w5 w6 h5 ho => by
                have := h5.t.only ho (fun e => by have := (h5.oj _ e).1; omega)
                exact ⟨this.free 3, this.cell (o := 3) rfl⟩
              replace hct := Lib.hid hct
              replace hft := Lib.hid hft
              go_region_law ((first | (refine step_appN (by rfl) _ _ _ (by rfl) 111 (.agg #[.string ByteArray.empty, .bool false]) 2 24 Tryz.underlying55 infoIdx (by rfl) (by decide) (by decide) ia K.length ic (ixCells (K.map ixK)) (by exact hX5.oi) (by rfl) _ 1 1 [.string cn, .bool false] (by rfl) (by rfl) (by exact news_at (Has.new _ _ _)) (by simp [Value.oneCell']) hby ?_; intro ia' ic' w6 own6 only6 fresh6; obtain ⟨g1, g2⟩ := hft.out _ w6 hX5 only6) | (go_simp; refine (hcl.out _).mono ?_; rintro e w4 ⟨rfl, hb4⟩; obtain ⟨y1, hX5⟩ := hct.out w4 hb4; have y2 := hX5.t.cell (o := 3) rfl)))
              all_goals
                have hX6 := hX5.app (k := d) (by rw [hixk.out]; exact own6) only6 (by simpa using fresh6)
                replace hX6 := Lib.hid hX6
                clear own6 only6 fresh6 hX5 hb4 y1 y2 g1 g2 t3
                go_wp2_with fail
                go_roundw
                case rel => first | exact ⟨f, q, K ++ [d], ia', ic', rfl, hlt5.out.1, hlt5.out.2, hdg.out, hdg2.out, hX6.out⟩ | ((repeat apply Exists.intro); exact ⟨⟨f, q, K ++ [d], ia', ic', rfl, hlt5.out.1, hlt5.out.2, hdg.out, hdg2.out, hX6.out⟩, rfl⟩)
                case measure => have := hmeas.out; simp [RowKit.intOf]; omega
theorem table_any (n : Nat) (hn : n < 65536) (w : World) : Calls Tryz.prog 17 #[.int .u16 (n : Int)] w (TabP n w) :=
  (table_new n hn w).mono fun e w' ⟨ca, cc, ia, ic, h1, h2, h3, h4, _⟩ => ⟨ca, cc, ia, ic, h1, h2, h3, h4⟩
end Go.Proofs.YtgnoikfmhncbmaaGreatDoor
