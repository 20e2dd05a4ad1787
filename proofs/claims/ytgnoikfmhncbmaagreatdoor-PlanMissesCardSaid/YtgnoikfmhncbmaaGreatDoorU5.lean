/- The table of the laws is valid: plain; plan.check. Walks: plan.check. What Make answers: plain. The indexes of the laws' tables. The memory of Make. -/
import Derived.Test.YtgnoikfmhncbmaaGreatDoorU1
import Derived.Deep.MidRow
import Derived.Deep.WholeRow
import Derived.Test.YtgnoikfmhncbmaaGreatDoorB11
import Derived.Test.YtgnoikfmhncbmaaGreatDoorQP
set_option linter.unusedVariables false
set_option linter.unusedSimpArgs false
namespace Go.Proofs.YtgnoikfmhncbmaaGreatDoor
open Go.RowKit
theorem nm_eq (k j : Nat) (hk : k < 6) (hj : j < 6) : ((colN k).toList == (colN j).toList) = decide (k = j) := by
  rw [str_eq]
  have : ∀ k < 6, ∀ j < 6, decide (colN k = colN j) = decide (k = j) := by decide
  exact this k hk j hj
theorem colsT_get {n k : Nat} (h : k < n) : (colsT n).getD k CV0 = colT k := by
  unfold colsT
  rw [List.getD, List.getElem?_map, List.getElem?_range h]
  rfl
theorem findT (k : Nat) (hk : k < 4) : FindIs (colsT 4) (colN k) (k : Int) := by
  refine .inr ⟨k, by rw [colsT_len]; exact hk, rfl, ?_, fun j hj => ?_⟩
  · rw [colsT_get hk]; show ((colN k).toList == (colN k).toList) = true; rw [nm_eq k k (by omega) (by omega)]; simp
  · rw [colsT_get (by omega)]; show ((colN j).toList == (colN k).toList) = false; rw [nm_eq j k (by omega) (by omega)]; simp; omega
theorem oneT (k : Nat) (hk : k < 4) : ∃ x, One (colN k) x := by
  match k, hk with
  | 0, _ => exact ⟨97, by unfold LetterN; omega, 97, rfl, rfl⟩
  | 1, _ => exact ⟨98, by unfold LetterN; omega, 98, rfl, rfl⟩
  | 2, _ => exact ⟨99, by unfold LetterN; omega, 99, rfl, rfl⟩
  | 3, _ => exact ⟨100, by unfold LetterN; omega, 100, rfl, rfl⟩
theorem tabOkT : TabOk (colsT 4) where
  len := by rw [colsT_len]; omega
  nm := fun k hk => by rw [colsT_len] at hk; rw [colsT_get hk]; exact oneT k hk
  df := fun k hk => by rw [colsT_len] at hk; rw [colsT_get hk]; exact findT k hk
  fit := fun k hk => by
    rw [colsT_len] at hk
    rw [colsT_get hk]
    match k, hk with
    | 0, _ | 1, _ | 2, _ | 3, _ => exact ⟨by decide, by decide⟩
theorem verT : VerIs 1 (colsT 4) 0 := by
  refine .inr ⟨rfl, by omega, by omega, rfl, fun j hj => ?_⟩
  rw [colsT_len] at hj
  match j, hj with
  | 0, _ | 1, _ | 2, _ | 3, _ => exact ⟨by decide, by decide⟩
theorem ixOkT {K : List Nat} (h : DigOk K) : IxOk (colsT 4) (K.map ixK) where
  len := by rw [List.length_map]; exact h.len
  df := fun k hk => by
    rw [List.length_map] at hk
    have hg : ∀ j, j < K.length → (K.map ixK).getD j IX0 = ixK (K.getD j 0) := fun j hj => by
      rw [List.getD, List.getElem?_map, List.getD, List.getElem?_eq_getElem hj]; rfl
    have hr : ∀ j, j < K.length → 1 ≤ K.getD j 0 ∧ K.getD j 0 ≤ 4 := fun j hj => h.r _ (by rw [List.getD, List.getElem?_eq_getElem hj]; exact List.getElem_mem hj)
    have hr1 := hr k hk
    refine .inr ⟨k, by rw [List.length_map]; exact hk, rfl, ?_, fun j hj => ?_⟩
    · rw [hg k hk]
      show ((colN (K.getD k 0 - 1)).toList == (colN (K.getD k 0 - 1)).toList) = true
      rw [nm_eq _ _ (by omega) (by omega)]; simp
    · have hr2 := hr j (by omega)
      rw [hg k hk, hg j (by omega)]
      show ((colN (K.getD j 0 - 1)).toList == (colN (K.getD k 0 - 1)).toList) = false
      rw [nm_eq _ _ (by omega) (by omega)]
      refine decide_eq_false fun e => ?_
      have e2 : K.getD j 0 = K.getD k 0 := by omega
      rw [List.getD, List.getElem?_eq_getElem (by omega : j < K.length), List.getD, List.getElem?_eq_getElem hk] at e2
      have := (List.getElem_inj h.nd).1 e2
      omega
  fd := fun k hk => by
    rw [List.length_map] at hk
    have hg : (K.map ixK).getD k IX0 = ixK (K.getD k 0) := by
      rw [List.getD, List.getElem?_map, List.getD, List.getElem?_eq_getElem hk]; rfl
    have hr := h.r (K.getD k 0) (by rw [List.getD, List.getElem?_eq_getElem hk]; exact List.getElem_mem hk)
    exact ⟨K.getD k 0 - 1, by rw [hg]; exact findT _ (by omega)⟩
theorem oneTag : One tagS 116 := ⟨by unfold LetterN; omega, 116, rfl, rfl⟩
theorem valid_T {K : List Nat} (h : DigOk K) (ca : Option Addr) (cc : Nat) (ia : Option Addr) (ic : Nat) (w : World) (hr : Rd w (.slice ca 4 cc) 4 (cCells (colsT 4))) (hri : Rd w (.slice ia K.length ic) K.length (ixCells (K.map ixK))) (hE : Env w) :
    Calls Tryz.prog 73 #[tabI tagS 1 ca 4 cc ia K.length ic] w (RPost w (.int .i64 0)) := by
  have := tabvalid_ix tagS 116 oneTag 1 (colsT 4) tabOkT (by rw [colsT_len]; omega) 0 verT ca cc (K.map ixK) (ixOkT h) ia ic w (by rw [colsT_len]; exact hr) (by rw [List.length_map]; exact hri) hE
  rw [colsT_len, List.length_map] at this
  exact this
end Go.Proofs.YtgnoikfmhncbmaaGreatDoor

namespace Go.Proofs.YtgnoikfmhncbmaaGreatDoor
open Go.RowKit
/-- A statement's cells. -/
def stmtC (kind : Int) (tn : ByteArray) (qc wh : Value) (od : ByteArray) (ds : Bool) (lm : Int) : List Value := [.int .u8 kind, .string tn, .int .u32 0, qc, .slice none 0 0, wh, .string od, .bool ds, .int .i64 lm, .string ⟨#[]⟩, .int .i64 0, .slice none 0 0, .slice none 0 0, .int .u64 0, .int .u64 0, .bool false]
def stmtV (kind : Int) (tn : ByteArray) (qc wh : Value) (od : ByteArray) (ds : Bool) (lm : Int) : Value := .agg (stmtC kind tn qc wh od ds lm).toArray
structure TblAt (w : World) (K : List Nat) (ca : Option Addr) (cc : Nat) (ia : Option Addr) (ic : Nat) : Prop where
  k : DigOk K
  c : Rd w (.slice ca 4 cc) 4 (cCells (colsT 4))
  i : Rd w (.slice ia K.length ic) K.length (ixCells (K.map ixK))
theorem TblAt.kept {w w' : World} {K : List Nat} {ca : Option Addr} {cc : Nat} {ia : Option Addr} {ic : Nat} (h : TblAt w K ca cc ia ic) (hb : Below w.heap.size w w') : TblAt w' K ca cc ia ic := ⟨h.k, h.c.kept hb, h.i.kept hb⟩
structure TreeAt (w : World) (root : AT) : Prop where
  at' : root.At w
  nd : root.addrs.Nodup
  fit : root.Fit
  sz : root.size ≤ 20000000
theorem TreeAt.below {w w' : World} {root : AT} (h : TreeAt w root) (hb : Below w.heap.size w w') : TreeAt w' root := ⟨h.at'.below hb, h.nd, h.fit, h.sz⟩
theorem check_T {w : World} {K : List Nat} {ca : Option Addr} {cc : Nat} {ia : Option Addr} {ic : Nat} {root : AT} (h : TblAt w K ca cc ia ic) (hr : TreeAt w root) : Calls Tryz.prog 18 #[root.ptr, tabI tagS 1 ca 4 cc ia K.length ic] w (RPost w (.int .i64 ((checkP (colsT 4) root : Nat) : Int))) := by
  have := check_any hr.at' hr.nd hr.sz tagS 1 (colsT 4) ca cc ia K.length ic (by rw [colsT_len]; exact h.c) (by rw [colsT_len]; omega)
  rw [colsT_len] at this
  exact this
set_option maxHeartbeats 4000000 in
set_option maxRecDepth 100000 in
theorem pcheck_sel {w : World} {K : List Nat} {ca : Option Addr} {cc : Nat} {ia : Option Addr} {ic : Nat} {root : AT} (h : TblAt w K ca cc ia ic) (hr : TreeAt w root) (hE : Env w) (ds : Bool) (lm : Int) : Calls Tryz.prog 45 #[tabI tagS 1 ca 4 cc ia K.length ic, stmtV 7 tagS (.slice none 0 0) root.ptr (colN 0) ds lm] w (RPost w (.int .i64 ((checkP (colsT 4) root : Nat) : Int))) := by
  generalize hpost : RPost w (.int .i64 ((checkP (colsT 4) root : Nat) : Int)) = post
  have hf : ∀ (k : Nat) w', checkP (colsT 4) root = k → Below w.heap.size w w' → post (.returned (.int .i64 (k : Int))) w' := fun k w' h1 h2 => by rw [← hpost, h1]; exact ⟨rfl, h2⟩
  clear hpost
  have hval := fun w' (hb : Below w.heap.size w w') => valid_T h.k ca cc ia ic w' (h.kept hb).c (h.kept hb).i (hE.below hb)
  have hchk := fun w' (hb : Below w.heap.size w w') => check_T (h.kept hb) (hr.below hb)
  have hfnd := fun w' (hb : Below w.heap.size w w') => find_ix tagS 1 (colsT 4) ca cc ia K.length ic (colN 0) 0 (findT 0 (by omega)) w' (by rw [colsT_len]; exact (h.kept hb).c) (by rw [colsT_len]; omega)
  rw [colsT_len] at hfnd
  have hod : ((colN 0).toList == []) = false ∧ ((colN 0).toList == [105, 100]) = false := ⟨by have : ((colN 0).toList == (⟨#[]⟩ : ByteArray).toList) = false := (by rw [str_eq]; decide); rwa [ByteArray.toList_eq ⟨#[]⟩] at this, by have : ((colN 0).toList == (colN 4).toList) = false := nm_eq 0 4 (by omega) (by omega); rwa [show (colN 4).toList = [105, 100] from idS_l] at this⟩
  obtain ⟨hod1, hod2⟩ := hod
  generalize colN 0 = oS at *
  obtain ⟨tg, htg⟩ : ∃ tg, tagS = tg := ⟨_, rfl⟩
  rw [htg] at hval hchk hfnd ⊢
  obtain ⟨m, hm⟩ : ∃ m, K.length = m := ⟨_, rfl⟩
  rw [hm] at hval hchk hfnd ⊢
  obtain ⟨ce, hce⟩ : ∃ ce, checkP (colsT 4) root = ce := ⟨_, rfl⟩
  rw [hce] at hchk hf
  obtain ⟨pt, hpt⟩ : ∃ pt, root.ptr = .pointer pt := AT.isP root
  rw [hpt] at hchk ⊢
  clear h hr hE
  unfold stmtV stmtC
  try dsimp only
  obtain ⟨W2, hW2⟩ : ∃ W2, W2 = (w.alloc (.cells #[.string tg, .int .i64 1, .slice ca 4 cc, .slice ia m ic, .int .u64 0, .int .u64 0] 59)).alloc (.cells #[.int .u8 7, .string tg, .int .u32 0, (.slice none 0 0), .slice none 0 0, .pointer pt, .string oS, .bool ds, .int .i64 lm, .string ⟨#[]⟩, .int .i64 0, .slice none 0 0, .slice none 0 0, .int .u64 0, .int .u64 0, .bool false] 80) := ⟨_, rfl⟩
  have hb2 : Below w.heap.size w W2 := by rw [hW2]; exact ((Below.refl _ _).alloc (Nat.le_refl _) _).alloc (by simp) _
  have HT : Has W2 w.heap.size [.string tg, .int .i64 1, .slice ca 4 cc, .slice ia m ic, .int .u64 0, .int .u64 0] 59 := by rw [hW2]; exact (Has.new w _ _).alloc _
  have HS : Has W2 (w.heap.size + 1) [.int .u8 7, .string tg, .int .u32 0, (.slice none 0 0), .slice none 0 0, .pointer pt, .string oS, .bool ds, .int .i64 lm, .string ⟨#[]⟩, .int .i64 0, .slice none 0 0, .slice none 0 0, .int .u64 0, .int .u64 0, .bool false] 80 := by
    have := Has.new (w.alloc (.cells #[.string tg, .int .i64 1, .slice ca 4 cc, .slice ia m ic, .int .u64 0, .int .u64 0] 59)) [.int .u8 7, .string tg, .int .u32 0, (.slice none 0 0), .slice none 0 0, .pointer pt, .string oS, .bool ds, .int .i64 lm, .string ⟨#[]⟩, .int .i64 0, .slice none 0 0, .slice none 0 0, .int .u64 0, .int .u64 0, .bool false] 80
    simp only [World.size_alloc] at this; rw [hW2]; exact this
  have hz2 : W2.heap.size = w.heap.size + 1 + 1 := by rw [hW2]; simp
  replace hW2 := Lib.hid hW2.symm
  have hval2 := hval W2 hb2
  replace hval := Lib.hid hval
  replace hval2 := Lib.hid hval2
  replace hchk := Lib.hid hchk
  replace hfnd := Lib.hid hfnd
  replace htg := Lib.hid htg
  replace hm := Lib.hid hm
  replace hce := Lib.hid hce
  replace hpt := Lib.hid hpt
  replace hf := Lib.hid hf
  replace hz2 := Lib.hid hz2
  have t0a := (HT).cell (o := 0) rfl
  have t1a := (HT).cell (o := 1) rfl
  have t2a := (HT).cell (o := 2) rfl
  have t3a := (HT).cell (o := 3) rfl
  have t4a := (HT).cell (o := 4) rfl
  have t5a := (HT).cell (o := 5) rfl
  have s0a := (HS).cell (o := 0) rfl
  have s1a := (HS).cell (o := 1) rfl
  have s2a := (HS).cell (o := 2) rfl
  have s3a := (HS).cell (o := 3) rfl
  have s4a := (HS).cell (o := 4) rfl
  have s5a := (HS).cell (o := 5) rfl
  have s6a := (HS).cell (o := 6) rfl
  have s7a := (HS).cell (o := 7) rfl
  have s8a := (HS).cell (o := 8) rfl
  go_enter Tryz.func45, Tryz.ntmps45
  go_upto_region 1 with fail
  rw [hW2.out]
  go_wp2_with fail
  refine hval2.out.mono ?_
  rintro e w3 ⟨rfl, hb3⟩
  clear t0a t1a t2a t3a t4a t5a s0a s1a s2a s3a s4a s5a s6a s7a s8a
  have HT3 := HT.only (Only.of_below hb3) (Nat.not_le.2 HT.lt)
  have HS3 := HS.only (Only.of_below hb3) (Nat.not_le.2 HS.lt)
  have hbw3 := hb2.trans (hb3.mono hb2.size)
  have hc3 := hchk.out w3 hbw3
  replace hc3 := Lib.hid hc3
  replace hbw3 := Lib.hid hbw3
  have hz3 := hb3.size
  clear hb3 HT HS
  have t0b := (HT3).cell (o := 0) rfl
  have t1b := (HT3).cell (o := 1) rfl
  have t2b := (HT3).cell (o := 2) rfl
  have t3b := (HT3).cell (o := 3) rfl
  have t4b := (HT3).cell (o := 4) rfl
  have t5b := (HT3).cell (o := 5) rfl
  have s0b := (HS3).cell (o := 0) rfl
  have s1b := (HS3).cell (o := 1) rfl
  have s2b := (HS3).cell (o := 2) rfl
  have s3b := (HS3).cell (o := 3) rfl
  have s4b := (HS3).cell (o := 4) rfl
  have s5b := (HS3).cell (o := 5) rfl
  have s6b := (HS3).cell (o := 6) rfl
  have s7b := (HS3).cell (o := 7) rfl
  have s8b := (HS3).cell (o := 8) rfl
  have hee : (tg.toList != tg.toList) = false := by simp
  go_wp2_with fail
  refine hc3.out.mono ?_
  rintro e w4 ⟨rfl, hb4⟩
  clear t0b t1b t2b t3b t4b t5b s0b s1b s2b s3b s4b s5b s6b s7b s8b
  have HT4 := HT3.only (Only.of_below hb4) (Nat.not_le.2 HT3.lt)
  have HS4 := HS3.only (Only.of_below hb4) (Nat.not_le.2 HS3.lt)
  have hbw4 := hbw3.out.trans (hb4.mono hbw3.out.size)
  by_cases h0 : ce = 0
  · subst h0
    have t0c := (HT4).cell (o := 0) rfl
    have t1c := (HT4).cell (o := 1) rfl
    have t2c := (HT4).cell (o := 2) rfl
    have t3c := (HT4).cell (o := 3) rfl
    have t4c := (HT4).cell (o := 4) rfl
    have t5c := (HT4).cell (o := 5) rfl
    have s0c := (HS4).cell (o := 0) rfl
    have s1c := (HS4).cell (o := 1) rfl
    have s2c := (HS4).cell (o := 2) rfl
    have s3c := (HS4).cell (o := 3) rfl
    have s4c := (HS4).cell (o := 4) rfl
    have s5c := (HS4).cell (o := 5) rfl
    have s6c := (HS4).cell (o := 6) rfl
    have s7c := (HS4).cell (o := 7) rfl
    have s8c := (HS4).cell (o := 8) rfl
    have e0 : (((0 : Nat) : Int) != 0) = false := rfl
    have hf4 := hfnd.out w4 hbw4
    replace hf4 := Lib.hid hf4
    replace hbw4 := Lib.hid hbw4
    clear hb4 HT4 HS4 HT3 HS3
    go_wp2_with fail
    go_loopw [44] (fun i wr => i = .int .i64 0 ∧ w4 = wr) (fun i _ => 0)
    case atStart => exact ⟨rfl, rfl⟩
    case round =>
      obtain ⟨rfl, rfl⟩ := hrel
      go_wp2_with fail
      refine hf4.out.mono ?_
      rintro e w5 ⟨rfl, hb5⟩
      have hfin := Lib.hid (hf.out 0 w5 rfl (hbw4.out.trans (hb5.mono hbw4.out.size)))
      clear hb5 t0c t1c t2c t3c t4c t5c s0c s1c s2c s3c s4c s5c s6c s7c s8c
      go_wp2_with fail
      exact hfin.out
  · have e0 : (((ce : Nat) : Int) != 0) = true := by simp; exact h0
    have hfin := Lib.hid (hf.out ce w4 rfl hbw4)
    replace h0 := Lib.hid h0
    clear hb4 HT4 HS4 HT3 HS3
    go_wp2_with fail
    exact hfin.out
end Go.Proofs.YtgnoikfmhncbmaaGreatDoor

namespace Go.Proofs.YtgnoikfmhncbmaaGreatDoor
open Go.RowKit
/-- A plan's path, column and bounds. -/
structure PlanD where
  path : Nat
  col : ByteArray
  lo : RV
  hi : RV
def zRV : RV := ⟨0, false, 0, ⟨#[]⟩, false⟩
def fitI (B : ByteArray → Sp) (nm : Nat → ByteArray) (ty : Nat → Nat) (q j : Nat) : Bool :=
  if q = 0 then singleP (B (nm j)).lo (B (nm j)).hi else rangedP (ty j) (B (nm j)).lo (B (nm j)).hi
def firstI (B : ByteArray → Sp) (nm : Nat → ByteArray) (ty : Nat → Nat) (m q : Nat) : Option Nat := (List.range m).find? (fitI B nm ty q)
def ofI (B : ByteArray → Sp) (nm : Nat → ByteArray) (j : Nat) : PlanD := ⟨3, nm j, (B (nm j)).lo, (B (nm j)).hi⟩
def planD (B : ByteArray → Sp) (nm : Nat → ByteArray) (ty : Nat → Nat) (m : Nat) : PlanD :=
  if (B idS).lo.nl = false ∨ (B idS).hi.nl = false then ⟨2, ⟨#[]⟩, zRV, zRV⟩
  else match firstI B nm ty m 0 with
    | some j => ofI B nm j
    | none => match firstI B nm ty m 1 with
      | some j => ofI B nm j
      | none => ⟨1, ⟨#[]⟩, zRV, zRV⟩
def planCells (d : PlanD) (ids : Int × Int) (f : Value) (od : ByteArray) (ds : Bool) (lm : Int) : List Value :=
  [.int .u8 (d.path : Int), .string d.col, .int .u8 (d.lo.ty : Int), .bool d.lo.nl, .int .i64 d.lo.n, .string d.lo.tx, .bool d.lo.b, .int .u8 (d.hi.ty : Int), .bool d.hi.nl, .int .i64 d.hi.n, .string d.hi.tx, .bool d.hi.b, .int .u32 ids.1, .int .u32 ids.2, f, .string od, .bool ds, .int .i64 lm]
variable {B : ByteArray → Sp} {nm : Nat → ByteArray} {ty : Nat → Nat} {m : Nat}
theorem find_first {p : Nat → Bool} : ∀ (m j : Nat), j < m → p j = true → (∀ i, i < j → p i = false) → (List.range m).find? p = some j
  | m, j, hj, h1, h2 => by
    rw [List.find?_eq_some_iff_append]
    refine ⟨h1, List.range j, (List.range (m - j - 1)).map (· + (j + 1)), ?_, fun a ha => by rw [h2 a (List.mem_range.1 ha)]; rfl⟩
    have : m = j + (1 + (m - j - 1)) := by omega
    conv => lhs; rw [this]
    rw [List.range_add, List.range_add]
    simp [List.map_map, Function.comp_def, Nat.add_comm, Nat.add_left_comm]
theorem find_none {p : Nat → Bool} (m : Nat) (h : ∀ i, i < m → p i = false) : (List.range m).find? p = none := by
  rw [List.find?_eq_none]
  intro x hx
  rw [h x (List.mem_range.1 hx)]; simp
theorem planD_id (h : (B idS).lo.nl = false ∨ (B idS).hi.nl = false) : planD B nm ty m = ⟨2, ⟨#[]⟩, zRV, zRV⟩ := if_pos h
theorem planD_fit (h : ¬ ((B idS).lo.nl = false ∨ (B idS).hi.nl = false)) (q j : Nat) (hq : q < 2) (hj : j < m) (hf : fitI B nm ty q j = true) (h1 : ∀ i, i < j → fitI B nm ty q i = false) (h2 : ∀ q', q' < q → ∀ i, i < m → fitI B nm ty q' i = false) : planD B nm ty m = ofI B nm j := by
  rw [planD, if_neg h]
  have hq2 : q = 0 ∨ q = 1 := by omega
  rcases hq2 with rfl | rfl
  · rw [firstI, find_first m j hj hf h1]
  · rw [firstI, find_none m (h2 0 (by omega)), firstI, find_first m j hj hf h1]
theorem planD_none (h : ¬ ((B idS).lo.nl = false ∨ (B idS).hi.nl = false)) (h2 : ∀ q', q' < 2 → ∀ i, i < m → fitI B nm ty q' i = false) : planD B nm ty m = ⟨1, ⟨#[]⟩, zRV, zRV⟩ := by
  rw [planD, if_neg h, firstI, find_none m (h2 0 (by omega)), firstI, find_none m (h2 1 (by omega))]
theorem set_from : ∀ (new pre cs : List Value) (w : World) (b : Nat) (T : TypeId), Has w b (pre ++ cs) T → new.length = cs.length → Has (w.setCells b pre.length new) b (pre ++ new) T
  | [], pre, cs, w, b, T, h, hl => by
    have : cs = [] := by cases cs with | nil => rfl | cons c cs => simp at hl
    subst this
    exact h
  | v :: new, pre, cs, w, b, T, h, hl => by
    cases cs with
    | nil => simp at hl
    | cons c cs =>
      have h1 := h.set pre.length v
      have e : (pre ++ c :: cs).set pre.length v = (pre ++ [v]) ++ cs := by simp
      rw [e] at h1
      have h2 := set_from new (pre ++ [v]) cs _ b T h1 (by simpa using hl)
      have e2 : (pre ++ [v]).length = pre.length + 1 := by simp
      rw [e2, List.append_assoc] at h2
      exact h2
theorem set_only : ∀ (new : List Value) (o b : Nat) (w : World), Only (fun k => k = b) w (w.setCells b o new)
  | [], o, b, w => Only.refl _ _
  | v :: new, o, b, w => ((Only.refl (fun k => k = b) w).setCell (a := ⟨b, o, none⟩) (fun _ => rfl) v).trans (set_only new (o + 1) b _)
theorem set_all {w : World} {b : Nat} {cs new : List Value} {T : TypeId} (h : Has w b cs T) (hl : new.length = cs.length) : w.there b 0 new.length ∧ Has (w.setCells b 0 new) b new T ∧ Only (fun k => k = b) w (w.setCells b 0 new) := by
  refine ⟨fun j hj => ?_, set_from new [] cs w b T h hl, set_only new 0 b w⟩
  have hg : cs[j]? = some (cs[j]'(by omega)) := List.getElem?_eq_getElem (by omega)
  rw [Nat.zero_add]
  exact ⟨by rw [h.cell hg]; rfl, h.free j⟩
theorem infoPlan : (Tryz.prog.info? 43).map (·.size) = some 18 := by kernel_rfl
theorem plan_load {w : World} {b : Nat} {cs : List Value} (hh : Has w b cs 43) (hl : cs.length = 18) : (Instr.loadAt 43 (.pointer (some ⟨b, 0, none⟩))).run Tryz.prog w = .ok (.agg cs.toArray) w := by
  have h2 := run_loadCells_list (P := Tryz.prog) w ⟨b, 0, none⟩ cs (fun j v hv => news_at hh j v hv)
  rw [hl] at h2
  simp only [Instr.loadAt, Instr.sureAddr, loadVar, Sem.run_bind, Sem.run_pure, Result.andThen_ok, Tryz.isAgg43, Tryz.sizeOf43, if_true, h2]
theorem plan_store {w : World} {b : Nat} {cs new : List Value} (hh : Has w b cs 43) (hl : cs.length = 18) (hn : new.length = 18) (h1 : ∀ v ∈ new, v.oneCell' = true) :
    ∃ w', (Instr.storeAt 43 (.pointer (some ⟨b, 0, none⟩)) (.agg new.toArray)).run Tryz.prog w = .ok () w' ∧ Has w' b new 43 ∧ Only (fun k => k = b) w w' := by
  obtain ⟨g1, g2, g3⟩ := set_all hh (hn.trans hl.symm)
  refine ⟨_, run_storeAt_mid (P := Tryz.prog) w b 0 43 new.toArray (by simpa using g1) (by rw [infoPlan]; simp [hn]) (by simpa using h1), by simpa using g2, by simpa using g3⟩
theorem wpList_loadA {P : Program} {w : World} {ops : Array Oper} {rest : List Oper} {o : Oper} {a : Act} {Q : Exit → Act → World → Prop} (hgd : o.guard = none) (x : Operand) (t : TypeId)
    (ho : o.op = .load t x) (v : Value) (hrun : (Instr.loadAt t (a.eval x)).run P w = .ok v w) (h : wpList P ops Q rest (a.put o.dst v) w) : wpList P ops Q (o :: rest) a w := by
  refine wpList_plain hgd fun K hK => ?_
  unfold Oper.wp execOp
  simp only [ho, Sem.run_bind, Sem.run_pure, Result.andThen_ok, hrun]
  exact hK _ _ h
theorem wpList_storeA {P : Program} {w w' : World} {ops : Array Oper} {rest : List Oper} {o : Oper} {a : Act} {Q : Exit → Act → World → Prop} (hgd : o.guard = none) (x y : Operand) (t : TypeId)
    (ho : o.op = .store t x y) (hd : o.dst = none) (hrun : (Instr.storeAt t (a.eval x) (a.eval y)).run P w = .ok () w') (h : wpList P ops Q rest a w') : wpList P ops Q (o :: rest) a w := by
  refine wpList_plain hgd fun K hK => ?_
  unfold Oper.wp execOp
  simp only [ho, Sem.run_bind, Sem.run_pure, Result.andThen_ok, hrun]
  exact hK _ _ (by rw [hd]; exact h)
end Go.Proofs.YtgnoikfmhncbmaaGreatDoor

namespace Go.Proofs.YtgnoikfmhncbmaaGreatDoor
open Go.RowKit
def posK (K : List Nat) (j : Nat) : Nat := K.getD j 1 - 1
def nmK (K : List Nat) (j : Nat) : ByteArray := colN (posK K j)
def tyK (K : List Nat) (j : Nat) : Nat := tyL.getD (posK K j) 0
theorem DigOk.pos {K : List Nat} (h : DigOk K) {j : Nat} (hj : j < K.length) : posK K j < 4 := by
  have h1 := h.r (K.getD j 1) (by rw [List.getD, List.getElem?_eq_getElem hj]; exact List.getElem_mem hj)
  unfold posK
  omega
theorem DigOk.four {K : List Nat} (h : DigOk K) : K.length ≤ 4 := h.len
theorem TblAt.ix {w : World} {K : List Nat} {ca : Option Addr} {cc : Nat} {ia : Option Addr} {ic : Nat} (h : TblAt w K ca cc ia ic) (j : Nat) (hj : j < K.length) :
    ∃ bi oi, ia = some ⟨bi, oi, none⟩ ∧ ∀ wx, Below w.heap.size w wx → wx.cell? ⟨bi, oi + j * 2, none⟩ = some (.string (nmK K j)) ∧ wx.cell? ⟨bi, oi + j * 2 + 1, none⟩ = some (.bool false) := by
  obtain ⟨bi, oi, cap, hv, hc⟩ := h.i.cells (by omega)
  simp only [Value.slice.injEq] at hv
  have hg : (K.map ixK).getD j IX0 = ⟨nmK K j, false⟩ := by
    simp only [List.getD, List.getElem?_map, List.getElem?_eq_getElem hj, Option.map_some, Option.getD_some, nmK, posK, ixK]
  have hl : j < (K.map ixK).length := by rw [List.length_map]; exact hj
  refine ⟨bi, oi, hv.1, fun wx hb => ⟨?_, ?_⟩⟩
  · exact cellk hb (hc (j * 2) _ (by have := ix_get hl 0 (.string (nmK K j)) (by rw [hg]; rfl); exact this))
  · have := cellk hb (hc (j * 2 + 1) _ (ix_get hl 1 (.bool false) (by rw [hg]; rfl)))
    rw [← Nat.add_assoc] at this
    exact this
theorem TblAt.ct {w : World} {K : List Nat} {ca : Option Addr} {cc : Nat} {ia : Option Addr} {ic : Nat} (h : TblAt w K ca cc ia ic) (j : Nat) (hj : j < K.length) :
    ∃ bc oc, ca = some ⟨bc, oc, none⟩ ∧ posK K j < 4 ∧ ∀ wx, Below w.heap.size w wx → wx.cell? ⟨bc, oc + posK K j * 9 + 1, none⟩ = some (.int .u8 (tyK K j : Int)) := by
  obtain ⟨bc, oc, cap, hv, hc⟩ := h.c.cells (by omega)
  simp only [Value.slice.injEq] at hv
  have hp := h.k.pos hj
  refine ⟨bc, oc, hv.1, hp, fun wx hb => ?_⟩
  have e : (cCells (colsT 4))[posK K j * 9 + 1]? = some (.int .u8 (tyK K j : Int)) := by
    unfold tyK
    generalize posK K j = p at hp
    have : p = 0 ∨ p = 1 ∨ p = 2 ∨ p = 3 := by omega
    rcases this with rfl | rfl | rfl | rfl <;> rfl
  have := cellk hb (hc _ _ e)
  rw [← Nat.add_assoc] at this
  exact this
end Go.Proofs.YtgnoikfmhncbmaaGreatDoor

namespace Go.Proofs.YtgnoikfmhncbmaaGreatDoor
open Go.RowKit
/-- The blocks of Make: the table's, the statement's, the result's and the plan's. -/
structure MkSt (w : World) (b : Nat) (tc sc zc pc : List Value) (wx : World) : Prop where
  T : Has wx w.heap.size tc 59
  S : Has wx (w.heap.size + 1) sc 80
  R : Has wx (w.heap.size + 1 + 1) zc 43
  P : Has wx b pc 43
  lt : w.heap.size + 1 + 1 < b
  hb : Below w.heap.size w wx
variable {w wx w' : World} {b : Nat} {tc sc zc pc : List Value}
theorem MkSt.below (h : MkSt w b tc sc zc pc wx) (hb : Below wx.heap.size wx w') : MkSt w b tc sc zc pc w' :=
  ⟨h.T.only (Only.of_below hb) (Nat.not_le.2 h.T.lt), h.S.only (Only.of_below hb) (Nat.not_le.2 h.S.lt), h.R.only (Only.of_below hb) (Nat.not_le.2 h.R.lt), h.P.only (Only.of_below hb) (Nat.not_le.2 h.P.lt), h.lt, h.hb.trans (hb.mono h.hb.size)⟩
theorem MkSt.alloc (h : MkSt w b tc sc zc pc wx) (o : Obj) : MkSt w b tc sc zc pc (wx.alloc o) := ⟨h.T.alloc o, h.S.alloc o, h.R.alloc o, h.P.alloc o, h.lt, h.hb.alloc h.hb.size o⟩
theorem MkSt.drew (h : MkSt w b tc sc zc pc wx) : MkSt w b tc sc zc pc wx.drew := ⟨h.T.drew, h.S.drew, h.R.drew, h.P.drew, h.lt, h.hb.drew⟩
theorem MkSt.setP (h : MkSt w b tc sc zc pc wx) (o : Nat) (v : Value) : MkSt w b tc sc zc (pc.set o v) (wx.setCell ⟨b, o, none⟩ v) := by
  have := h.lt
  exact ⟨h.T.set_ne (by show w.heap.size ≠ b; omega) v, h.S.set_ne (by show w.heap.size + 1 ≠ b; omega) v, h.R.set_ne (by show w.heap.size + 1 + 1 ≠ b; omega) v, h.P.set o v, h.lt, h.hb.setCell (by show w.heap.size ≤ b; omega) v⟩
theorem MkSt.size (h : MkSt w b tc sc zc pc wx) : w.heap.size + 1 + 1 < wx.heap.size := Nat.lt_trans h.lt h.P.lt
theorem results_make {tmps : Array Value} {w : World} {b : Nat} {cs : List Value} {e : Value} (h4 : tmps.getD 4 undef = .pointer (some ⟨b, 0, none⟩)) (h5 : tmps.getD 5 undef = e) (hh : Has w b cs 43) (hl : cs.length = 18) :
    (results Tryz.f25 tmps).run Tryz.prog w = .ok (.tuple #[.agg cs.toArray, e]) w := by
  have h2 := run_loadCells_list (P := Tryz.prog) w ⟨b, 0, none⟩ cs (fun j v hv => news_at hh j v hv)
  rw [hl] at h2
  unfold results
  rw [Tryz.results25]
  simp only [List.mapM_toArray, List.mapM_cons, List.mapM_nil, map_eq_pure_bind, bind_assoc, pure_bind, Sem.run_bind, Sem.run_pure, Result.andThen_ok, h4, h5, asAddr, loadVar, Tryz.isAgg43, Tryz.sizeOf43, if_true, h2]
  rfl
/-- The plan's cells while its path, column and bounds are being stored. -/
def c4 (p0 p1 n0 n1 : Value) (l h nl nh : V5) (r : List Value) (b0 b1 b2 b3 : Bool) : List Value :=
  (if b0 = true then n0 else p0) :: (if b1 = true then n1 else p1) :: ((if b2 = true then nl.l else l.l) ++ ((if b3 = true then nh.l else h.l) ++ r))
structure P4 (w w0 : World) (b : Nat) (tc sc zc : List Value) (p0 p1 n0 n1 : Value) (l h nl nh : V5) (r : List Value) (H : Nat → Option Value) (wx : World) : Prop where
  v : ∀ s u, H s = some u → u = undef
  m : MkSt w b tc sc zc (c4 p0 p1 n0 n1 l h nl nh r (H 0).isSome (H 1).isSome (H 2).isSome (H 3).isSome) wx
  o : Only (fun k => k = b) w0 wx
section
variable {w0 : World} {p0 p1 n0 n1 : Value} {l h nl nh : V5} {r : List Value} {H : Nat → Option Value}
theorem P4.start (hm : MkSt w b tc sc zc (c4 p0 p1 n0 n1 l h nl nh r false false false false) w0) : P4 w w0 b tc sc zc p0 p1 n0 n1 l h nl nh r (fun _ => none) w0.drew :=
  ⟨fun s u h => (by cases h), hm.drew, (Only.refl _ _).drew⟩
theorem setP_un (H : Nat → Option Value) (s : Nat) (h : ∀ s u, H s = some u → u = undef) : ∀ s' u, setP H s undef s' = some u → u = undef := fun s' u h' => by
  unfold setP at h'
  split at h'
  · exact (Option.some.inj h').symm
  · exact h s' u h'
theorem setP_at (H : Nat → Option Value) (s : Nat) : (setP H s undef s).isSome = true := by unfold setP; rw [if_pos rfl]; rfl
theorem setP_off (H : Nat → Option Value) (s s' : Nat) (h : s' ≠ s) : setP H s undef s' = H s' := if_neg h
theorem P4.s0 (hp : P4 w w0 b tc sc zc p0 p1 n0 n1 l h nl nh r H wx) : P4 w w0 b tc sc zc p0 p1 n0 n1 l h nl nh r (setP H 0 undef) (wx.setCell ⟨b, 0, none⟩ n0) := by
  refine ⟨setP_un H 0 hp.v, ?_, hp.o.setCell (a := ⟨b, 0, none⟩) (fun _ => rfl) _⟩
  rw [setP_at, setP_off H 0 1 (by decide), setP_off H 0 2 (by decide), setP_off H 0 3 (by decide)]
  exact hp.m.setP 0 n0
theorem P4.s1 (hp : P4 w w0 b tc sc zc p0 p1 n0 n1 l h nl nh r H wx) : P4 w w0 b tc sc zc p0 p1 n0 n1 l h nl nh r (setP H 1 undef) (wx.setCell ⟨b, 1, none⟩ n1) := by
  refine ⟨setP_un H 1 hp.v, ?_, hp.o.setCell (a := ⟨b, 1, none⟩) (fun _ => rfl) _⟩
  rw [setP_at, setP_off H 1 0 (by decide), setP_off H 1 2 (by decide), setP_off H 1 3 (by decide)]
  exact hp.m.setP 1 n1
def putV (w : World) (b o : Nat) (v : V5) : World := ((((w.setCell ⟨b, o, none⟩ v.a).setCell ⟨b, o + 1, none⟩ v.b).setCell ⟨b, o + 2, none⟩ v.c).setCell ⟨b, o + 3, none⟩ v.d).setCell ⟨b, o + 4, none⟩ v.e
theorem putV_only (w : World) (b o : Nat) (v : V5) : Only (fun k => k = b) w (putV w b o v) :=
  (((((Only.refl (fun k => k = b) w).setCell (a := ⟨b, o, none⟩) (fun _ => rfl) _).setCell (a := ⟨b, o + 1, none⟩) (fun _ => rfl) _).setCell (a := ⟨b, o + 2, none⟩) (fun _ => rfl) _).setCell (a := ⟨b, o + 3, none⟩) (fun _ => rfl) _).setCell (a := ⟨b, o + 4, none⟩) (fun _ => rfl) _
theorem P4.s2 (hp : P4 w w0 b tc sc zc p0 p1 n0 n1 l h nl nh r H wx) : P4 w w0 b tc sc zc p0 p1 n0 n1 l h nl nh r (setP H 2 undef) (putV wx b 2 nl) := by
  refine ⟨setP_un H 2 hp.v, ?_, hp.o.trans (putV_only wx b 2 nl)⟩
  rw [setP_at, setP_off H 2 0 (by decide), setP_off H 2 1 (by decide), setP_off H 2 3 (by decide)]
  have := ((((hp.m.setP 2 nl.a).setP 3 nl.b).setP 4 nl.c).setP 5 nl.d).setP 6 nl.e
  generalize (H 2).isSome = b2 at this
  cases b2 <;> exact this
theorem P4.s3 (hp : P4 w w0 b tc sc zc p0 p1 n0 n1 l h nl nh r H wx) : P4 w w0 b tc sc zc p0 p1 n0 n1 l h nl nh r (setP H 3 undef) (putV wx b 7 nh) := by
  refine ⟨setP_un H 3 hp.v, ?_, hp.o.trans (putV_only wx b 7 nh)⟩
  rw [setP_at, setP_off H 3 0 (by decide), setP_off H 3 1 (by decide), setP_off H 3 2 (by decide)]
  have := ((((hp.m.setP 7 nh.a).setP 8 nh.b).setP 9 nh.c).setP 10 nh.d).setP 11 nh.e
  generalize (H 2).isSome = b2 at this ⊢
  generalize (H 3).isSome = b3 at this
  cases b2 <;> cases b3 <;> exact this
theorem P4.ex (H : Nat → Option Value) (wx : World) (hp : P4 w w0 b tc sc zc p0 p1 n0 n1 l h nl nh r H wx) (hn : ∃ s, s < 4 ∧ H s = none) : ∃ s v w', s < 4 ∧ H s = none ∧ P4 w w0 b tc sc zc p0 p1 n0 n1 l h nl nh r (setP H s v) w' := by
  obtain ⟨s, hs, he⟩ := hn
  have : s = 0 ∨ s = 1 ∨ s = 2 ∨ s = 3 := by omega
  rcases this with rfl | rfl | rfl | rfl
  · exact ⟨_, _, _, hs, he, hp.s0⟩
  · exact ⟨_, _, _, hs, he, hp.s1⟩
  · exact ⟨_, _, _, hs, he, hp.s2⟩
  · exact ⟨_, _, _, hs, he, hp.s3⟩
theorem P4.at {Hf : Nat → Value} {nds : List Nat} : clsP (P4 w w0 b tc sc zc p0 p1 n0 n1 l h nl nh r) Hf nds wx → Only (fun k => k = b) w0 wx := fun ⟨_, _, _, h⟩ => h.o
theorem P4.done {Hf : Nat → Value} (hp : P4 w w0 b tc sc zc p0 p1 n0 n1 l h nl nh r (fullP 4 Hf) wx) : (∀ s, s < 4 → Hf s = undef) ∧ MkSt w b tc sc zc (c4 p0 p1 n0 n1 l h nl nh r true true true true) wx := by
  have f : ∀ s, s < 4 → fullP 4 Hf s = some (Hf s) := fun s hs => if_pos hs
  refine ⟨fun s hs => hp.v s _ (f s hs), ?_⟩
  have := hp.m
  rw [f 0 (by decide), f 1 (by decide), f 2 (by decide), f 3 (by decide)] at this
  exact this
theorem P4.cellsL (hp : P4 w w0 b tc sc zc p0 p1 n0 n1 l h nl nh r H wx) (hn : H 2 = none) : wx.cell? ⟨b, 2, none⟩ = some l.a ∧ wx.cell? ⟨b, 3, none⟩ = some l.b ∧ wx.cell? ⟨b, 4, none⟩ = some l.c ∧ wx.cell? ⟨b, 5, none⟩ = some l.d ∧ wx.cell? ⟨b, 6, none⟩ = some l.e := by
  have h := hp.m.P
  rw [hn] at h
  exact ⟨h.cell (o := 2) rfl, h.cell (o := 3) rfl, h.cell (o := 4) rfl, h.cell (o := 5) rfl, h.cell (o := 6) rfl⟩
theorem P4.cellsH (hp : P4 w w0 b tc sc zc p0 p1 n0 n1 l h nl nh r H wx) (hn : H 3 = none) : wx.cell? ⟨b, 7, none⟩ = some h.a ∧ wx.cell? ⟨b, 8, none⟩ = some h.b ∧ wx.cell? ⟨b, 9, none⟩ = some h.c ∧ wx.cell? ⟨b, 10, none⟩ = some h.d ∧ wx.cell? ⟨b, 11, none⟩ = some h.e := by
  have g := hp.m.P
  rw [hn] at g
  generalize (H 2).isSome = b2 at g
  cases b2
  · exact ⟨g.cell (o := 7) rfl, g.cell (o := 8) rfl, g.cell (o := 9) rfl, g.cell (o := 10) rfl, g.cell (o := 11) rfl⟩
  · exact ⟨g.cell (o := 7) rfl, g.cell (o := 8) rfl, g.cell (o := 9) rfl, g.cell (o := 10) rfl, g.cell (o := 11) rfl⟩
theorem P4.cell0 (hp : P4 w w0 b tc sc zc p0 p1 n0 n1 l h nl nh r H wx) (hn : H 0 = none) : wx.cell? ⟨b, 0, none⟩ = some p0 := by
  have h := hp.m.P
  rw [hn] at h
  exact h.cell (o := 0) rfl
theorem P4.cell1 (hp : P4 w w0 b tc sc zc p0 p1 n0 n1 l h nl nh r H wx) (hn : H 1 = none) : wx.cell? ⟨b, 1, none⟩ = some p1 := by
  have h := hp.m.P
  rw [hn] at h
  exact h.cell (o := 1) rfl
theorem P4.free (hp : P4 w w0 b tc sc zc p0 p1 n0 n1 l h nl nh r H wx) (o : Nat) : wx.frozen? ⟨b, o, none⟩ = false := hp.m.P.free o
end
end Go.Proofs.YtgnoikfmhncbmaaGreatDoor
