/- Make of the laws' tables. The example of the laws: plain. The example of the laws: the classes of its region that makes a table and a plan. Walks: the example of the laws. -/
import Derived.Test.YtgnoikfmhncbmaaGreatDoorU6
import Derived.Test.YtgnoikfmhncbmaaGreatDoorU5
import Derived.Test.YtgnoikfmhncbmaaGreatDoorN4
import Derived.Test.YtgnoikfmhncbmaaGreatDoorN53
set_option linter.unusedVariables false
set_option linter.unusedSimpArgs false
namespace Go.Proofs.YtgnoikfmhncbmaaGreatDoor
open Go.RowKit
theorem make_sel {w : World} {K : List Nat} {ca : Option Addr} {cc : Nat} {ia : Option Addr} {ic : Nat} {root : AT} (h : TblAt w K ca cc ia ic) (hr : TreeAt w root) (hE : Env w) (ds : Bool) (lm : Int) (hc : checkP (colsT 4) root = 0) :
    Calls Tryz.prog 25 #[tabI tagS 1 ca 4 cc ia K.length ic, stmtV 7 tagS (.slice none 0 0) root.ptr (colN 0) ds lm] w
      (RPost w (.tuple #[.agg (planCells (planD (fun c => bndP c root) (nmK K) (tyK K) K.length) (idsP (bndP idS root).lo (bndP idS root).hi) root.ptr (colN 0) ds lm).toArray, .int .i64 0])) := by
  obtain ⟨pt, hpt⟩ : ∃ pt, root.ptr = .pointer pt := AT.isP root
  have hbd : ∀ col wx, Below w.heap.size w wx → Calls Tryz.prog 10 #[.pointer pt, .string col] wx (RPost wx (bndV (bndP col root))) := fun col wx hb => by
    rw [← hpt]; exact bounds_any root col wx (hr.below hb).at' hr.nd hr.fit hr.sz (hE.below hb)
  have hB : ∀ col, (bndP col root).Bd := fun col => bndP.bd col hr.fit
  have hm := make_w (w := w) tagS ca ia cc K.length ic (.slice none 0 0) pt (colN 0) ds lm 0 (RPost w (.tuple #[.agg (planCells (planD (fun c => bndP c root) (nmK K) (tyK K) K.length) (idsP (bndP idS root).lo (bndP idS root).hi) root.ptr (colN 0) ds lm).toArray, .int .i64 0])) (fun c => bndP c root) (nmK K) (tyK K) (posK K) h.k.four 7 (colN 0) ds lm (.inl ⟨rfl, rfl, rfl, rfl⟩)
    (fun wx hb => by have := pcheck_sel (h.kept hb) (hr.below hb) (hE.below hb) ds lm; rw [hc, hpt] at this; exact this)
    (fun wx hb => hbd idS wx hb) (fun j _ wx hb => hbd (nmK K j) wx hb)
    (fun j hj wx hb => by have := find_ix tagS 1 (colsT 4) ca cc ia K.length ic (nmK K j) (posK K j) (findT _ (h.k.pos hj)) wx (by rw [colsT_len]; exact (h.kept hb).c) (by rw [colsT_len]; omega); rw [colsT_len] at this; exact this)
    (fun j hj wx hb => single_any _ _ (tyK K j) (hB _).1.2.1 (hB _).2.2.1 wx (hE.below hb))
    (fun j hj wx hb => ranged_any _ _ (tyK K j) (hB _).1.2.1 (hB _).2.2.1 wx (hE.below hb))
    h.ix h.ct (fun h0 => absurd rfl h0) (fun _ w' hb => by rw [hpt]; exact ⟨rfl, hb⟩)
  rw [hpt] at hm ⊢
  exact hm
end Go.Proofs.YtgnoikfmhncbmaaGreatDoor

namespace Go.Proofs.YtgnoikfmhncbmaaGreatDoor
open Go.RowKit Go.Lib
def intR (n : Int) : RV := ⟨1, false, n, ⟨#[]⟩, false⟩
def exA (a : Nat) : AT := .node a 8 ⟨#[97]⟩ (intR 1) .nil .nil
def exB (b : Nat) : AT := .node b 7 ⟨#[97]⟩ (intR 5) .nil .nil
def exR (r a b : Nat) : AT := .node r 1 ⟨#[]⟩ zRV (exA a) (exB b)
def exD (d : Nat) : AT := .node d 9 ⟨#[100]⟩ (intR 3) .nil .nil
theorem bnd_A (a : Nat) : bndP ⟨#[97]⟩ (exA a) = ⟨intR 1, RVN, false⟩ := by
  simp [bndP, exA, pairB, simpP, intR]
theorem bnd_B (b : Nat) : bndP ⟨#[97]⟩ (exB b) = ⟨RVN, intR 5, true⟩ := by
  simp [bndP, exB, pairB, simpP, intR]
theorem bnd_R (r a b : Nat) : bndP ⟨#[97]⟩ (exR r a b) = ⟨intR 1, intR 5, false⟩ := by
  rw [exR, bndP, if_pos (by simp [pairB, exA, exB, AT.isNil]), if_pos rfl, bnd_A, bnd_B]
  rfl
theorem bnd_Did (d : Nat) : bndP idS (exD d) = spN false := by
  have h : (⟨#[100]⟩ : ByteArray) ≠ idS := by intro h; cases h
  simp [bndP, exD, pairB, simpP, h]
theorem bnd_D (d : Nat) : bndP (colN 3) (exD d) = ⟨intR 3, RVN, true⟩ := by
  have h : colN 3 = ⟨#[100]⟩ := rfl
  rw [h]
  simp [bndP, exD, pairB, simpP, intR]
theorem digD_4 : digD 4 = [4] := by kernel_rfl
theorem find_3 : findI (colsT 4) (colN 3) 0 = 3 := by
  show findI [colT 0, colT 1, colT 2, colT 3] (colN 3) 0 = 3
  have e : ∀ k, (colT k).nm = colN k := fun k => rfl
  have f := fun k hk => nm_eq k 3 hk (by decide)
  rw [findI, e, f 0 (by decide), if_neg (by decide), findI, e, f 1 (by decide), if_neg (by decide), findI, e, f 2 (by decide), if_neg (by decide), findI, e, f 3 (by decide), if_pos (by decide)]
  rfl
theorem kind_3 : kindP (colsT 4) (colN 3) = some 1 := by
  have h : ((colN 3).toList == idS.toList) = false := nm_eq 3 4 (by decide) (by decide)
  rw [kindP, if_neg (by rw [h]; simp), find_3, if_neg (by decide)]
  rfl
theorem check_D (d : Nat) : checkP (colsT 4) (exD d) = 0 := by
  have h : nodeP (colsT 4) (exD d) = 0 := by
    have hk : kindP (colsT 4) ⟨#[100]⟩ = some 1 := kind_3
    rw [exD, nodeP, if_neg (by decide), if_neg (by decide), if_pos (by decide), hk]
    rfl
  rw [checkP, exD, preO, if_neg (by decide), if_neg (by decide)]
  show errL (colsT 4) [exD d] = 0
  rw [errL, if_pos h]; rfl
theorem planD_D (d : Nat) : planD (fun c => bndP c (exD d)) (nmK [4]) (tyK [4]) 1 = ⟨3, colN 3, intR 3, RVN⟩ := by
  have hn : nmK [4] 0 = colN 3 := rfl
  have ht : tyK [4] 0 = 1 := rfl
  rw [planD_fit (q := 1) (j := 0) (by rw [bnd_Did]; simp [spN, RVN]) (by omega) (by omega) (by rw [fitI, if_neg (by decide), hn, ht, bnd_D]; kernel_rfl) (fun i h => by omega)
    (fun q' h i hi => by
      obtain rfl : q' = 0 := by omega
      obtain rfl : i = 0 := by omega
      rw [fitI, if_pos rfl, hn, bnd_D]; rfl)]
  rw [ofI, hn, bnd_D]
theorem ids_D (d : Nat) : idsP (bndP idS (exD d)).lo (bndP idS (exD d)).hi = (0, 4294967295) := by rw [bnd_Did]; rfl
def sayL : List UInt8 := [105, 110, 100, 101, 120, 32, 100, 32, 51, 32, 45, 32, 102, 105, 108, 116, 101, 114, 32, 111, 114, 100, 101, 114, 32, 97, 32, 108, 105, 109, 105, 116, 32, 50]
theorem dec_one (n : Nat) (h : n < 10) : decDigits n = [UInt8.ofNat (48 + n)] := by rw [decDigits.eq_1, dif_pos h]
theorem text_D : textL 3 (colN 3) (intR 3) RVN 0 4294967295 true (colN 0) false 2 = sayL := by
  have h1 : boundP (intR 3) = [51] := by
    have hf : formP (intR 3) = 0 := by kernel_rfl
    have hx : textP (intR 3) = if formP (intR 3) ≠ 0 then [] else itoa 3 := rfl
    have hi : itoa 3 = decDigits 3 := itoa_nonneg 3
    show textP (intR 3) = _
    rw [hx, if_neg (by rw [hf]; simp), hi, dec_one 3 (by decide)]; rfl
  have h2 : itoa 2 = [50] := by rw [show itoa 2 = decDigits 2 from itoa_nonneg 2, dec_one 2 (by decide)]; rfl
  have h3 : ordL (colN 0) false = [orderW, [97]] := by
    have : colN 0 ≠ ⟨#[]⟩ := by intro h; cases h
    rw [ordL, if_neg this]; rfl
  rw [textL, if_pos (by simp), tailL, h3, limL, if_pos (by decide), h2, pathL, if_neg (by decide), if_neg (by decide), h1]
  rfl
theorem text_D2 : join (pathL 3 (colN 3) (intR 3) RVN 0 4294967295 ++ tailL true (colN 0) false 2) [32] = sayL := by
  have h := text_D
  rw [textL, if_pos (by simp)] at h
  exact h
end Go.Proofs.YtgnoikfmhncbmaaGreatDoor

namespace Go.Proofs.YtgnoikfmhncbmaaGreatDoor
open Go.RowKit Go.Lib
def plZ : List Value := [.int .u8 0, .string ⟨#[]⟩, .int .u8 0, .bool false, .int .i64 0, .string ⟨#[]⟩, .bool false, .int .u8 0, .bool false, .int .i64 0, .string ⟨#[]⟩, .bool false, .int .u32 0, .int .u32 0, .pointer none, .string ⟨#[]⟩, .bool false, .int .i64 0]
def sayC (pt : Value) : List Value := planCells ⟨3, colN 3, intR 3, RVN⟩ (0, 4294967295) pt (colN 0) false 2
theorem make_D {w : World} {ca : Option Addr} {cc : Nat} {ia : Option Addr} {ic d : Nat} (h : TblAt w [4] ca cc ia ic) (hr : TreeAt w (exD d)) (hE : Env w) :
    Calls Tryz.prog 25 #[tabI tagS 1 ca 4 cc ia 1 ic, stmtV 7 tagS (.slice none 0 0) (exD d).ptr (colN 0) false 2] w (RPost w (.tuple #[.agg (sayC (exD d).ptr).toArray, .int .i64 0])) := by
  have := make_sel h hr hE false 2 (check_D d)
  rw [show ([4] : List Nat).length = 1 from rfl, planD_D, ids_D] at this
  exact this
theorem tab_inj {ca ca' : Option Addr} {cc cc' : Nat} {ia ia' : Option Addr} {ic ic' n : Nat} (h : tabI tagS 1 ca 4 cc ia n ic = tabI tagS 1 ca' 4 cc' ia' n ic') : ca = ca' ∧ cc = cc' ∧ ia = ia' ∧ ic = ic' := by
  simp [tabI] at h
  exact ⟨h.1.1, h.1.2, h.2.1, h.2.2⟩
structure AW (w0 : World) (M : Value) (nc : List Value) (H : Nat → Option Value) (w : World) : Prop where
  f0 : ∀ u, H 0 = some u → ∃ ca cc ia ic, u = tabI tagS 1 ca 4 cc ia 1 ic
  c0 : ∀ ca cc ia ic, H 0 = some (tabI tagS 1 ca 4 cc ia 1 ic) → H 1 = none → TblAt w [4] ca cc ia ic
  c1 : ∀ u, H 1 = some u → u = M
  c2 : ∀ u, H 2 = some u → ∃ b, u = .pointer (some ⟨b, 0, none⟩) ∧ w0.heap.size ≤ b ∧ Has w b (if (H 3).isSome = true then nc else plZ) 43
  c3 : ∀ u, H 3 = some u → u = undef
  c4 : H 2 = none → H 3 = none
  b : Below w0.heap.size w0 w
section
variable {w0 w w' : World} {M : Value} {nc : List Value} {H : Nat → Option Value}
theorem AW.start : AW w0 M nc (fun _ => none) w0.drew := ⟨fun u e => (by cases e), fun _ _ _ _ e => (by cases e), fun u e => (by cases e), fun u e => (by cases e), fun u e => (by cases e), fun _ => rfl, (Below.refl _ _).drew⟩
theorem AW.move (h : AW w0 M nc H w) (hb : Below w.heap.size w w') : (∀ ca cc ia ic, H 0 = some (tabI tagS 1 ca 4 cc ia 1 ic) → H 1 = none → TblAt w' [4] ca cc ia ic) ∧ (∀ u, H 2 = some u → ∃ b, u = .pointer (some ⟨b, 0, none⟩) ∧ w0.heap.size ≤ b ∧ Has w' b (if (H 3).isSome = true then nc else plZ) 43) ∧ Below w0.heap.size w0 w' :=
  ⟨fun ca cc ia ic h0 h1 => (h.c0 ca cc ia ic h0 h1).kept hb, fun u e => by
    obtain ⟨b, h1, h2, h3⟩ := h.c2 u e
    exact ⟨b, h1, h2, h3.only (Only.of_below hb) (Nat.not_le.2 h3.lt)⟩, h.b.trans (hb.mono h.b.size)⟩
theorem AW.tab (h : AW w0 M nc H w) {ca : Option Addr} {cc : Nat} {ia : Option Addr} {ic : Nat} (ht : TblAt w' [4] ca cc ia ic) (hb : Below w.heap.size w w') : AW w0 M nc (setP H 0 (tabI tagS 1 ca 4 cc ia 1 ic)) w' := by
  obtain ⟨h0, h2, h3⟩ := h.move hb
  refine ⟨fun u e => by cases e; exact ⟨ca, cc, ia, ic, rfl⟩, fun ca' cc' ia' ic' e _ => ?_, h.c1, h2, h.c3, h.c4, h3⟩
  obtain ⟨rfl, rfl, rfl, rfl⟩ := tab_inj (Option.some.inj e)
  exact ht
theorem AW.make (h : AW w0 M nc H w) (hb : Below w.heap.size w w') : AW w0 M nc (setP H 1 M) w' := by
  obtain ⟨h0, h2, h3⟩ := h.move hb
  exact ⟨h.f0, fun ca cc ia ic _ e => (by cases e), fun u e => by cases e; rfl, h2, h.c3, h.c4, h3⟩
theorem AW.new (h : AW w0 M nc H w) (hn : H 3 = none) : AW w0 M nc (setP H 2 (.pointer (some ⟨w.heap.size, 0, none⟩))) (w.alloc (.cells plZ.toArray 43)) := by
  obtain ⟨h0, h2, h3⟩ := h.move ((Below.refl w.heap.size w).alloc (Nat.le_refl _) (.cells plZ.toArray 43))
  refine ⟨h.f0, h0, h.c1, fun u e => ?_, h.c3, fun e => (by cases e), h3⟩
  cases e
  refine ⟨_, rfl, h.b.size, ?_⟩
  rw [show setP H 2 (.pointer (some ⟨w.heap.size, 0, none⟩)) 3 = H 3 from rfl, hn]
  exact Has.new w plZ 43
theorem AW.new2 (h : AW w0 M nc H w) (hn : H 2 = none) : AW w0 M nc (setP H 2 (.pointer (some ⟨w.heap.size, 0, none⟩))) (w.alloc (.cells plZ.toArray 43)) := h.new (h.c4 hn)
theorem AW.sto (h : AW w0 M nc H w) {b : Nat} (h2 : H 2 = some (.pointer (some ⟨b, 0, none⟩))) (h1 : (H 1).isSome = true) (hh : Has w' b nc 43) (ho : Only (fun k => k = b) w w') : AW w0 M nc (setP H 3 undef) w' := by
  obtain ⟨b', e1, e2, e3⟩ := h.c2 _ h2
  cases e1
  refine ⟨h.f0, fun ca cc ia ic _ e => ?_, h.c1, fun u e => ?_, fun u e => by cases e; rfl, fun e => (by rw [show setP H 3 undef 2 = H 2 from rfl, h2] at e; cases e), h.b.trans (ho.below h.b.size (fun k _ e => by omega))⟩
  · rw [show setP H 3 undef 1 = H 1 from rfl] at e
    rw [e] at h1; cases h1
  · rw [show setP H 3 undef 2 = H 2 from rfl, h2] at e
    cases e
    exact ⟨b, rfl, e2, hh⟩
theorem AW.at {Hf : Nat → Value} {nds : List Nat} : clsP (AW w0 M nc) Hf nds w → Below w0.heap.size w0 w := fun ⟨_, _, _, h⟩ => h.b
theorem AW.done {Hf : Nat → Value} (h : AW w0 M nc (fullP 4 Hf) w) : (∃ ca cc ia ic, Hf 0 = tabI tagS 1 ca 4 cc ia 1 ic) ∧ Hf 1 = M ∧ Hf 3 = undef ∧ ∃ b, Hf 2 = .pointer (some ⟨b, 0, none⟩) ∧ w0.heap.size ≤ b ∧ Has w b nc 43 ∧ Below w0.heap.size w0 w := by
  obtain ⟨b, h1, h2, h3⟩ := h.c2 (Hf 2) rfl
  exact ⟨h.f0 _ rfl, h.c1 _ rfl, h.c3 _ rfl, b, h1, h2, h3, h.b⟩
theorem tbl_ex (w : World) : ∃ ca cc ia ic w', TblAt w' [4] ca cc ia ic ∧ Below w.heap.size w w' := by
  have b1 := (Below.refl w.heap.size w).alloc (Nat.le_refl _) (.cells (cCells (colsT 4)).toArray 108)
  have b2 := b1.alloc b1.size (.cells (ixCells ([4].map ixK)).toArray 111)
  refine ⟨some ⟨w.heap.size, 0, none⟩, 4, some ⟨(w.alloc (.cells (cCells (colsT 4)).toArray 108)).heap.size, 0, none⟩, 1, _, ⟨⟨by decide, by decide⟩, ?_, ?_⟩, b2⟩
  · exact Rd.of_has ((Has.new w _ _).alloc _) 4 4
  · exact Rd.of_has (Has.new _ _ _) 1 1
theorem AW.ex (hl : nc.length = 18) (h1c : ∀ v ∈ nc, v.oneCell' = true) (H : Nat → Option Value) (w : World) (h : AW w0 M nc H w) (hn : ∃ s, s < 4 ∧ H s = none) : ∃ s u w', s < 4 ∧ H s = none ∧ AW w0 M nc (setP H s u) w' := by
  cases h1 : H 1 with
  | none => exact ⟨1, M, w, by omega, h1, h.make (Below.refl _ _)⟩
  | some m =>
    cases h0 : H 0 with
    | none =>
      obtain ⟨ca, cc, ia, ic, w', ht, hb⟩ := tbl_ex w
      exact ⟨0, _, w', by omega, h0, h.tab ht hb⟩
    | some t =>
      cases h3 : H 3 with
      | none =>
        cases h2 : H 2 with
        | none => exact ⟨2, _, _, by omega, h2, h.new h3⟩
        | some p =>
          obtain ⟨b, rfl, hb, hh⟩ := h.c2 p h2
          rw [h3] at hh
          obtain ⟨w', _, g1, g2⟩ := plan_store (new := nc) hh rfl hl h1c
          exact ⟨3, undef, w', by omega, h3, h.sto h2 (by rw [h1]; rfl) g1 g2⟩
      | some x =>
        obtain ⟨s, hs, he⟩ := hn
        match s, hs with
        | 0, _ => rw [h0] at he; cases he
        | 1, _ => rw [h1] at he; cases he
        | 3, _ => rw [h3] at he; cases he
        | 2, _ =>
          rw [h.c4 he] at h3; cases h3
end
theorem callUpon_storeA {P : Program} {w w' : World} {V : Value → World → Prop} {o : Oper} {a : Act} (x y : Operand) (t : TypeId) (ho : o.op = .store t x y) (hrun : (Instr.storeAt t (a.eval x) (a.eval y)).run P w = .ok () w') (hc : V undef w') : callUpon P w V ((execOp a.eval o).run P w) := by
  unfold execOp
  simp only [ho, Sem.run_bind, Sem.run_pure, Result.andThen_ok, hrun]
  exact hc
theorem wpList_loadG {P : Program} {w : World} {ops : Array Oper} {rest : List Oper} {o : Oper} {a : Act} {Q : Exit → Act → World → Prop} (hw : Region.wanted o (yielded ops a.tmps) = true) (x : Operand) (t : TypeId)
    (ho : o.op = .load t x) (v : Value) (hrun : (Instr.loadAt t (a.eval x)).run P w = .ok v w) (h : wpList P ops Q rest (a.put o.dst v) w) : wpList P ops Q (o :: rest) a w := by
  refine wpList_step fun K hK => ?_
  rw [if_pos hw]
  unfold Oper.wp execOp
  simp only [ho, Sem.run_bind, Sem.run_pure, Result.andThen_ok, hrun]
  exact hK _ _ h
end Go.Proofs.YtgnoikfmhncbmaaGreatDoor

namespace Go.Proofs.YtgnoikfmhncbmaaGreatDoor
open Go.RowKit Go.Lib
theorem subP_eq {H : Nat → Option Value} {Hf : Nat → Value} {s : Nat} {u : Value} (h : subP H Hf) (hu : H s = some u) : u = Hf s := (h s u hu).symm
theorem eval_const (a : Act) (v : Value) : a.eval (.const v) = v := rfl
theorem build_D {o : Oper} {a : Act} (ho : o.op = .build 46 #[(0, .const (.int .u8 9)), (3, .const (.string ⟨#[100]⟩)), (4, .tmp 35)]) (h : a.eval (.tmp 35) = .agg #[.int .u8 1, .bool false, .int .i64 3, .string ⟨#[]⟩, .bool false]) (w : World) : (execOp a.eval o).run Tryz.prog w = .ok (.value (.agg #[.int .u8 9, .pointer none, .pointer none, .string ⟨#[100]⟩, .int .u8 1, .bool false, .int .i64 3, .string ⟨#[]⟩, .bool false])) w := by
  unfold execOp
  simp only [ho, List.map_toArray, List.map_cons, List.map_nil, h, eval_const]
  simp [go_sem]
theorem build_S {o : Oper} {a : Act} (ho : o.op = .build 80 #[(0, .const (.int .u8 7)), (1, .const (.string ⟨#[116]⟩)), (6, .const (.string ⟨#[97]⟩)), (8, .const (.int .i64 2)), (5, .tmp 37)]) {d : Nat} (h : a.eval (.tmp 37) = .pointer (some ⟨d, 0, none⟩)) (w : World) : (execOp a.eval o).run Tryz.prog w = .ok (.value (.agg #[.int .u8 7, .string ⟨#[116]⟩, .int .u32 0, .slice none 0 0, .slice none 0 0, .pointer (some ⟨d, 0, none⟩), .string ⟨#[97]⟩, .bool false, .int .i64 2, .string ⟨#[]⟩, .int .i64 0, .slice none 0 0, .slice none 0 0, .int .u64 0, .int .u64 0, .bool false])) w := by
  unfold execOp
  simp only [ho, List.map_toArray, List.map_cons, List.map_nil, h, eval_const]
  simp [go_sem]
theorem wpList_val {P : Program} {w : World} {ops : Array Oper} {rest : List Oper} {o : Oper} {a : Act} {Q : Exit → Act → World → Prop} (hgd : o.guard = none) (v : Value) (w' : World) (hrun : (execOp a.eval o).run P w = .ok (.value v) w') (h : wpList P ops Q rest (a.put o.dst v) w') : wpList P ops Q (o :: rest) a w := by
  refine wpList_plain hgd fun K hK => ?_
  unfold Oper.wp
  simp only [hrun]
  exact hK _ _ h
theorem infoStm : (Tryz.prog.info? 80).map (·.size) = some 16 := by kernel_rfl
theorem stmt_load {w : World} {b : Nat} {cs : List Value} (hh : Has w b cs 80) (hl : cs.length = 16) : (Instr.loadAt 80 (.pointer (some ⟨b, 0, none⟩))).run Tryz.prog w = .ok (.agg cs.toArray) w := by
  have h2 := run_loadCells_list (P := Tryz.prog) w ⟨b, 0, none⟩ cs (fun j v hv => news_at hh j v hv)
  rw [hl] at h2
  simp only [Instr.loadAt, Instr.sureAddr, loadVar, Sem.run_bind, Sem.run_pure, Result.andThen_ok, Tryz.isAgg80, Tryz.sizeOf80, if_true, h2]
set_option maxHeartbeats 8000000 in
set_option maxRecDepth 100000 in
theorem awake_any (w : World) (hE : Env w) : Calls Tryz.prog 8 #[] w (RPost w (.bool true)) := by
  generalize hpost : RPost w (.bool true) = post
  have hfin : ∀ w', Below w.heap.size w w' → post (.returned (.bool true)) w' := fun w' hb => by rw [← hpost]; exact ⟨rfl, hb⟩
  replace hpost := Lib.hid hpost
  replace hfin := Lib.hid hfin
  have hint := Lib.hid (fun n wx => integer_any n wx)
  go_enter Tryz.func8, Tryz.ntmps8
  go_wp2_with fail
  refine (hint.out _ _).mono ?_
  rintro e w1 ⟨rfl, hb1⟩
  replace hb1 := Lib.hid hb1
  go_upto_region 2 with fail
  replace hb1 := hb1.out
  obtain ⟨W1, hW1⟩ : ∃ W1, W1 = w1.alloc (.cells #[.int .u8 8, .pointer none, .pointer none, .string ⟨#[97]⟩, .int .u8 1, .bool false, .int .i64 1, .string ⟨#[]⟩, .bool false] 46) := ⟨_, rfl⟩
  have hbW1 : Below w.heap.size w W1 := by rw [hW1]; exact hb1.alloc hb1.size _
  have HA : Has W1 w1.heap.size (exCells 8 (.pointer none) (.pointer none) ⟨#[97]⟩ (intR 1)) 46 := by rw [hW1]; exact Has.new w1 _ _
  rw [← hW1]
  replace hW1 := Lib.hid hW1
  clear hb1
  replace hbW1 := Lib.hid hbW1
  replace HA := Lib.hid HA
  go_wp2_with fail
  refine (hint.out _ _).mono ?_
  rintro e w2 ⟨rfl, hb2⟩
  replace hb2 := Lib.hid hb2
  go_upto_region 3 with fail
  replace hb2 := hb2.out
  obtain ⟨W2, hW2⟩ : ∃ W2, W2 = w2.alloc (.cells #[.int .u8 7, .pointer none, .pointer none, .string ⟨#[97]⟩, .int .u8 1, .bool false, .int .i64 5, .string ⟨#[]⟩, .bool false] 46) := ⟨_, rfl⟩
  have hbW2 : Below w.heap.size w W2 := by rw [hW2]; exact (hbW1.out.trans (hb2.mono hbW1.out.size)).alloc (by have := hbW1.out.size; have := hb2.size; omega) _
  have HB : Has W2 w2.heap.size (exCells 7 (.pointer none) (.pointer none) ⟨#[97]⟩ (intR 5)) 46 := by rw [hW2]; exact Has.new w2 _ _
  have HA2 : Has W2 w1.heap.size (exCells 8 (.pointer none) (.pointer none) ⟨#[97]⟩ (intR 1)) 46 := by rw [hW2]; exact (HA.out.only (Only.of_below hb2) (Nat.not_le.2 HA.out.lt)).alloc _
  have l1 : w1.heap.size < w2.heap.size := Nat.lt_of_lt_of_le HA.out.lt hb2.size
  rw [← hW2]
  replace hW2 := Lib.hid hW2
  clear hb2 HA hbW1
  obtain ⟨W3, hW3⟩ : ∃ W3, W3 = W2.alloc (.cells #[.int .u8 1, .pointer (some ⟨w1.heap.size, 0, none⟩), .pointer (some ⟨w2.heap.size, 0, none⟩), .string ⟨#[]⟩, .int .u8 0, .bool false, .int .i64 0, .string ⟨#[]⟩, .bool false] 46) := ⟨_, rfl⟩
  have hbW3 : Below w.heap.size w W3 := by rw [hW3]; exact hbW2.alloc hbW2.size _
  have HR : Has W3 W2.heap.size (exCells 1 (.pointer (some ⟨w1.heap.size, 0, none⟩)) (.pointer (some ⟨w2.heap.size, 0, none⟩)) ⟨#[]⟩ zRV) 46 := by rw [hW3]; exact Has.new W2 _ _
  have HA3 : Has W3 w1.heap.size (exCells 8 (.pointer none) (.pointer none) ⟨#[97]⟩ (intR 1)) 46 := by rw [hW3]; exact HA2.alloc _
  have HB3 : Has W3 w2.heap.size (exCells 7 (.pointer none) (.pointer none) ⟨#[97]⟩ (intR 5)) 46 := by rw [hW3]; exact HB.alloc _
  have l2 : w2.heap.size < W2.heap.size := HB.lt
  have hbo := bounds_any (exR W2.heap.size w1.heap.size w2.heap.size) ⟨#[97]⟩ W3 ⟨HR, ⟨HA3, trivial, trivial⟩, ⟨HB3, trivial, trivial⟩⟩ (by
    show [W2.heap.size, w1.heap.size, w2.heap.size].Nodup
    simp; omega) ⟨by decide, by decide, by decide, by decide, ⟨by decide, by decide, by decide, by decide, trivial, trivial⟩, ⟨by decide, by decide, by decide, by decide, trivial, trivial⟩⟩ (by show (3 : Nat) ≤ 20000000; decide) (hE.below hbW3)
  rw [bnd_R] at hbo
  have hbo2 : Calls Tryz.prog 10 #[.pointer (some ⟨W2.heap.size, 0, none⟩), .string ⟨#[97]⟩] W3 (RPost W3 (.tuple #[.agg #[.int .u8 1, .bool false, .int .i64 1, .string ⟨#[]⟩, .bool false], .agg #[.int .u8 1, .bool false, .int .i64 5, .string ⟨#[]⟩, .bool false], .bool false])) := hbo
  replace hW3 := Lib.hid hW3.symm
  clear HR HA3 HB3 HA2 HB l1 l2 hbo hbW2
  replace hbo2 := Lib.hid hbo2
  replace hbW3 := Lib.hid hbW3
  go_wp2_with fail
  rw [hW3.out]
  refine hbo2.out.mono ?_
  rintro e w3 ⟨rfl, hb3⟩
  replace hb3 := Lib.hid hb3
  go_upto_region 4 with fail
  replace hb3 := hb3.out
  obtain ⟨W4, hW4⟩ : ∃ W4, W4 = (w3.alloc (.cells #[.int .u8 1, .bool false, .int .i64 1, .string ⟨#[]⟩, .bool false] 28)).alloc (.cells #[.int .u8 1, .bool false, .int .i64 5, .string ⟨#[]⟩, .bool false] 28) := ⟨_, rfl⟩
  have hbW4 : Below w.heap.size w W4 := by rw [hW4]; have h1 := hbW3.out.trans (hb3.mono hbW3.out.size); exact (h1.alloc h1.size _).alloc (by have := h1.size; simp; omega) _
  have HL : Has W4 w3.heap.size [.int .u8 1, .bool false, .int .i64 1, .string ⟨#[]⟩, .bool false] 28 := by rw [hW4]; exact (Has.new w3 _ _).alloc _
  have HH : Has W4 (w3.heap.size + 1) [.int .u8 1, .bool false, .int .i64 5, .string ⟨#[]⟩, .bool false] 28 := by rw [hW4]; have h := Has.new (w3.alloc (.cells #[.int .u8 1, .bool false, .int .i64 1, .string ⟨#[]⟩, .bool false] 28)) [.int .u8 1, .bool false, .int .i64 5, .string ⟨#[]⟩, .bool false] 28; simp only [World.size_alloc] at h; exact h
  rw [← hW4]
  replace hW4 := Lib.hid hW4
  clear hb3 hbW3
  replace hbW4 := Lib.hid hbW4
  replace HL := Lib.hid HL
  replace HH := Lib.hid HH
  go_cut [34] (fun q wx => q = .bool false ∧ Below W4.heap.size W4 wx)
  case first =>
    as_aux_lemma =>
      have kL := fun wx (hb : Below W4.heap.size W4 wx) => HL.out.only (Only.of_below hb) (Nat.not_le.2 HL.out.lt)
      have kH := fun wx (hb : Below W4.heap.size W4 wx) => HH.out.only (Only.of_below hb) (Nat.not_le.2 HH.out.lt)
      have c1 : ∀ wx, Below W4.heap.size W4 wx → Calls Tryz.prog 23 #[.int .i64 1] wx (fun e w2 => e = .returned (.agg #[.int .u8 1, .bool false, .int .i64 1, .string ⟨#[]⟩, .bool false]) ∧ Below W4.heap.size W4 w2) := fun wx hx => (hint.out 1 wx).mono fun e w2 ⟨he, hb⟩ => ⟨he, hx.trans (hb.mono hx.size)⟩
      have c5 : ∀ wx, Below W4.heap.size W4 wx → Calls Tryz.prog 23 #[.int .i64 5] wx (fun e w2 => e = .returned (.agg #[.int .u8 1, .bool false, .int .i64 5, .string ⟨#[]⟩, .bool false]) ∧ Below W4.heap.size W4 w2) := fun wx hx => (hint.out 5 wx).mono fun e w2 ⟨he, hb⟩ => ⟨he, hx.trans (hb.mono hx.size)⟩
      replace kL := Lib.hid kL
      replace kH := Lib.hid kH
      replace c1 := Lib.hid c1
      replace c5 := Lib.hid c5
      refine wp_region_quietC (C := fun wx => Below W4.heap.size W4 wx) (by kernel_rfl) (by kernel_rfl) (below_drew (Below.refl _ _)) ?_
      go_big_quiet_want; go_big_quiet_op
      refine ⟨.agg #[.int .u8 1, .bool false, .int .i64 1, .string ⟨#[]⟩, .bool false], fun wx hx => by simp [go_sem, (kL.out wx hx).cell (o := 0) rfl, (kL.out wx hx).cell (o := 1) rfl, (kL.out wx hx).cell (o := 2) rfl, (kL.out wx hx).cell (o := 3) rfl, (kL.out wx hx).cell (o := 4) rfl], ?_⟩
      go_big_quiet_on
      go_big_quiet_want; go_big_quiet_op
      refine ⟨.agg #[.int .u8 1, .bool false, .int .i64 1, .string ⟨#[]⟩, .bool false], fun wx hx => c1.out wx hx, ?_⟩
      go_big_quiet_on
      go_big_quiet_want; go_big_quiet_op
      refine ⟨.bool false, fun wx hx => by simp [go_sem], ?_⟩
      go_big_quiet_on
      iterate 1 (go_big_quiet_want; go_big_quiet_op; first | go_big_quiet_on | (refine ⟨_, fun _ _ => rfl, ?_⟩; go_big_quiet_on))
      go_big_quiet_want; go_big_quiet_op
      refine ⟨.agg #[.int .u8 1, .bool false, .int .i64 5, .string ⟨#[]⟩, .bool false], fun wx hx => by simp [go_sem, (kH.out wx hx).cell (o := 0) rfl, (kH.out wx hx).cell (o := 1) rfl, (kH.out wx hx).cell (o := 2) rfl, (kH.out wx hx).cell (o := 3) rfl, (kH.out wx hx).cell (o := 4) rfl], ?_⟩
      go_big_quiet_on
      go_big_quiet_want; go_big_quiet_op
      refine ⟨.agg #[.int .u8 1, .bool false, .int .i64 5, .string ⟨#[]⟩, .bool false], fun wx hx => c5.out wx hx, ?_⟩
      go_big_quiet_on
      go_big_quiet_want; go_big_quiet_op
      refine ⟨.bool false, fun wx hx => by simp [go_sem], ?_⟩
      go_big_quiet_on
      iterate 4 (go_big_quiet_want; go_big_quiet_op; first | go_big_quiet_on | (refine ⟨_, fun _ _ => rfl, ?_⟩; go_big_quiet_on))
      refine wpQuiet_nil ?_
      intro w' hw'
      replace hw' := Lib.hid hw'
      go_wp2_with fail
      go_meet
      exact ⟨rfl, hw'.out⟩
  case rest =>
    rename World => w5
    obtain ⟨rfl, hb5⟩ := hcut
    have hb6 := hbW4.out.trans (hb5.mono hbW4.out.size)
    clear hb5 HL HH hbW4
    replace hb6 := Lib.hid hb6
    as_aux_lemma =>
      go_upto_region 6 with fail
      go_cut [6] (fun q wx => ∃ d s, q = .pointer (some ⟨s, 0, none⟩) ∧ Has wx d (exCells 9 (.pointer none) (.pointer none) ⟨#[100]⟩ (intR 3)) 46 ∧ Has wx s (stmtC 7 tagS (.slice none 0 0) (.pointer (some ⟨d, 0, none⟩)) (colN 0) false 2) 80 ∧ Below w.heap.size w wx)
      case first =>
        as_aux_lemma =>
          go_wp2_with fail
          refine (hint.out _ _).mono ?_
          rintro e w6 ⟨rfl, hb7⟩
          replace hb7 := Lib.hid hb7
          have hb8 := hb6.out.trans (hb7.out.mono hb6.out.size)
          rename_i hKK
          refine hKK _ _ ?_
          refine wpList_val rfl (.agg #[.int .u8 9, .pointer none, .pointer none, .string ⟨#[100]⟩, .int .u8 1, .bool false, .int .i64 3, .string ⟨#[]⟩, .bool false]) w6 (build_D rfl rfl w6) ?_
          refine wpList_val rfl (.pointer (some ⟨w6.heap.size, 0, none⟩)) (w6.alloc (.cells #[.int .u8 9, .pointer none, .pointer none, .string ⟨#[100]⟩, .int .u8 1, .bool false, .int .i64 3, .string ⟨#[]⟩, .bool false] 46)) (by simp [go_sem, Act.put]) ?_
          obtain ⟨W7, hW7⟩ : ∃ W7, W7 = w6.alloc (.cells #[.int .u8 9, .pointer none, .pointer none, .string ⟨#[100]⟩, .int .u8 1, .bool false, .int .i64 3, .string ⟨#[]⟩, .bool false] 46) := ⟨_, rfl⟩
          have HD : Has W7 w6.heap.size (exCells 9 (.pointer none) (.pointer none) ⟨#[100]⟩ (intR 3)) 46 := by rw [hW7]; exact Has.new w6 _ _
          have hb9 : Below w.heap.size w W7 := by rw [hW7]; exact hb8.alloc hb8.size _
          rw [← hW7]
          clear hW7
          refine wpList_val rfl (.agg #[.int .u8 7, .string ⟨#[116]⟩, .int .u32 0, .slice none 0 0, .slice none 0 0, .pointer (some ⟨w6.heap.size, 0, none⟩), .string ⟨#[97]⟩, .bool false, .int .i64 2, .string ⟨#[]⟩, .int .i64 0, .slice none 0 0, .slice none 0 0, .int .u64 0, .int .u64 0, .bool false]) W7 (build_S rfl rfl W7) ?_
          refine wpList_val rfl (.pointer (some ⟨W7.heap.size, 0, none⟩)) (W7.alloc (.cells #[.int .u8 0, .string ⟨#[]⟩, .int .u32 0, .slice none 0 0, .slice none 0 0, .pointer none, .string ⟨#[]⟩, .bool false, .int .i64 0, .string ⟨#[]⟩, .int .i64 0, .slice none 0 0, .slice none 0 0, .int .u64 0, .int .u64 0, .bool false] 80)) (by simp [go_sem, Act.put]) ?_
          refine wpList_storeA rfl (.tmp 6) (.tmp 38) 80 rfl rfl (run_storeAt_new (P := Tryz.prog) W7 80 #[.int .u8 0, .string ⟨#[]⟩, .int .u32 0, .slice none 0 0, .slice none 0 0, .pointer none, .string ⟨#[]⟩, .bool false, .int .i64 0, .string ⟨#[]⟩, .int .i64 0, .slice none 0 0, .slice none 0 0, .int .u64 0, .int .u64 0, .bool false] #[.int .u8 7, .string ⟨#[116]⟩, .int .u32 0, .slice none 0 0, .slice none 0 0, .pointer (some ⟨w6.heap.size, 0, none⟩), .string ⟨#[97]⟩, .bool false, .int .i64 2, .string ⟨#[]⟩, .int .i64 0, .slice none 0 0, .slice none 0 0, .int .u64 0, .int .u64 0, .bool false] infoStm rfl (by simp [Value.oneCell'])) ?_
          have HS := Has.new W7 [.int .u8 7, .string ⟨#[116]⟩, .int .u32 0, .slice none 0 0, .slice none 0 0, .pointer (some ⟨w6.heap.size, 0, none⟩), .string ⟨#[97]⟩, .bool false, .int .i64 2, .string ⟨#[]⟩, .int .i64 0, .slice none 0 0, .slice none 0 0, .int .u64 0, .int .u64 0, .bool false] 80
          have hb10 : Below w.heap.size w (W7.alloc (.cells #[.int .u8 7, .string ⟨#[116]⟩, .int .u32 0, .slice none 0 0, .slice none 0 0, .pointer (some ⟨w6.heap.size, 0, none⟩), .string ⟨#[97]⟩, .bool false, .int .i64 2, .string ⟨#[]⟩, .int .i64 0, .slice none 0 0, .slice none 0 0, .int .u64 0, .int .u64 0, .bool false] 80)) := hb9.alloc hb9.size _
          have HD2 := HD.alloc (.cells #[.int .u8 7, .string ⟨#[116]⟩, .int .u32 0, .slice none 0 0, .slice none 0 0, .pointer (some ⟨w6.heap.size, 0, none⟩), .string ⟨#[97]⟩, .bool false, .int .i64 2, .string ⟨#[]⟩, .int .i64 0, .slice none 0 0, .slice none 0 0, .int .u64 0, .int .u64 0, .bool false] 80)
          generalize hW8 : W7.alloc (.cells #[.int .u8 7, .string ⟨#[116]⟩, .int .u32 0, .slice none 0 0, .slice none 0 0, .pointer (some ⟨w6.heap.size, 0, none⟩), .string ⟨#[97]⟩, .bool false, .int .i64 2, .string ⟨#[]⟩, .int .i64 0, .slice none 0 0, .slice none 0 0, .int .u64 0, .int .u64 0, .bool false] 80) = W8 at *
          clear hW8
          replace HS := Lib.hid HS
          replace HD2 := Lib.hid HD2
          replace hb10 := Lib.hid hb10
          simp only [Act.put]
          go_wp2_with fail
          go_meet
          exact ⟨w6.heap.size, W7.heap.size, rfl, HD2.out, HS.out, hb10.out⟩
      case rest =>
        rename World => w7
        obtain ⟨d, s, rfl, HD, HS, hb7⟩ := hcut
        clear hb6
        as_aux_lemma =>
          have hTr : TreeAt w7 (exD d) := ⟨⟨HD, trivial, trivial⟩, by show [d].Nodup; simp, ⟨by decide, by decide, by decide, by decide, trivial, trivial⟩, by show (1 : Nat) ≤ 20000000; decide⟩
          have hE7 := hE.below hb7
          obtain ⟨M, hM⟩ : ∃ M, M = sayC (.pointer (some ⟨d, 0, none⟩)) := ⟨_, rfl⟩
          have hMl : M.length = 18 := by rw [hM]; rfl
          have hM1 : ∀ v ∈ M, v.oneCell' = true := by rw [hM]; simp [sayC, planCells, Value.oneCell']
          have hmk : ∀ wx, Below w7.heap.size w7 wx → ∀ ca cc ia ic, TblAt wx [4] ca cc ia ic → Calls Tryz.prog 25 #[tabI tagS 1 ca 4 cc ia 1 ic, stmtV 7 tagS (.slice none 0 0) (.pointer (some ⟨d, 0, none⟩)) (colN 0) false 2] wx (RPost wx (.tuple #[.agg M.toArray, .int .i64 0])) := fun wx hb ca cc ia ic ht => by rw [hM]; exact make_D ht (hTr.below hb) (hE7.below hb)
          have htb : ∀ wx, Calls Tryz.prog 17 #[.int .u16 4] wx (fun e w2 => ∃ ca cc ia ic, e = .returned (tabI tagS 1 ca 4 cc ia 1 ic) ∧ TblAt w2 [4] ca cc ia ic ∧ Below wx.heap.size wx w2) := fun wx => (table_any 4 (by decide) wx).mono fun e w2 ⟨ca, cc, ia, ic, h1, h2, h3, h4⟩ => by
            rw [digD_4] at h1 h3
            exact ⟨ca, cc, ia, ic, h1, ⟨⟨by decide, by decide⟩, h2, h3⟩, h4⟩
          have kS := fun wx (hb : Below w7.heap.size w7 wx) => HS.only (Only.of_below hb) (Nat.not_le.2 HS.lt)
          replace kS : ∀ wx, Below w7.heap.size w7 wx → Has wx s [.int .u8 7, .string ⟨#[116]⟩, .int .u32 0, .slice none 0 0, .slice none 0 0, .pointer (some ⟨d, 0, none⟩), .string ⟨#[97]⟩, .bool false, .int .i64 2, .string ⟨#[]⟩, .int .i64 0, .slice none 0 0, .slice none 0 0, .int .u64 0, .int .u64 0, .bool false] 80 := kS
          replace hmk : ∀ wx, Below w7.heap.size w7 wx → ∀ ca cc ia ic, TblAt wx [4] ca cc ia ic → Calls Tryz.prog 25 #[tabI tagS 1 ca 4 cc ia 1 ic, .agg #[.int .u8 7, .string ⟨#[116]⟩, .int .u32 0, .slice none 0 0, .slice none 0 0, .pointer (some ⟨d, 0, none⟩), .string ⟨#[97]⟩, .bool false, .int .i64 2, .string ⟨#[]⟩, .int .i64 0, .slice none 0 0, .slice none 0 0, .int .u64 0, .int .u64 0, .bool false]] wx (RPost wx (.tuple #[.agg M.toArray, .int .i64 0])) := hmk
          replace hmk := Lib.hid hmk
          replace htb := Lib.hid htb
          replace kS := Lib.hid kS
          replace hM := Lib.hid hM
          replace hMl := Lib.hid hMl
          replace hM1 := Lib.hid hM1
          replace hb7 := Lib.hid hb7
          replace hE7 := Lib.hid hE7
          replace hTr := Lib.hid hTr
          replace HD := Lib.hid HD
          replace HS := Lib.hid HS
          go_upto_region 7 with fail
          go_cut [7, 8] (fun q1 q2 wx => ∃ b, q1 = .pointer (some ⟨b, 0, none⟩) ∧ q2 = .int .i64 0 ∧ Has wx b M 43 ∧ Below w7.heap.size w7 wx)
          case first =>
            as_aux_lemma =>
              refine wp_region_part [0, 2, 6, 7] [[], [0], [], [1, 2]] [] (AW w7 (.tuple #[.agg M.toArray, .int .i64 0]) M) (by kernel_rfl) (by kernel_rfl) (by kernel_rfl) AW.start (AW.ex hMl.out hM1.out) (fun Hf hx => ?_)
              obtain ⟨w', hx⟩ := hx
              obtain ⟨⟨ca, cc, ia, ic, v0e⟩, v1e, v3e, b, v2e, _⟩ := hx.done
              clear hx
              refine part_step (s := 0) v0e (by go_simp; exact rfl) (by kernel_rfl) (by kernel_rfl) (fun H wx hs hn hp hc => ?_) ?_
              · refine callUpon_mk (f := 17) (args := #[.int .u16 4]) (by simp [go_sem]) ?_
                exact (htb.out wx).mono fun e w'' ⟨ca, cc, ia, ic, he, ht, h2⟩ => ⟨_, he, hc.tab ht h2⟩
              refine part_chunk [] 1 _ _ _ (by kernel_rfl) (by kernel_rfl) (by decide) ?_
              simp only [List.take_succ_cons, List.take_zero, List.drop_succ_cons, List.drop_zero]
              go_big_quiet_want; go_big_quiet_op
              refine ⟨.agg #[.int .u8 7, .string ⟨#[116]⟩, .int .u32 0, .slice none 0 0, .slice none 0 0, .pointer (some ⟨d, 0, none⟩), .string ⟨#[97]⟩, .bool false, .int .i64 2, .string ⟨#[]⟩, .int .i64 0, .slice none 0 0, .slice none 0 0, .int .u64 0, .int .u64 0, .bool false], fun wx hx => ?_, ?_⟩
              · have h := kS.out wx (AW.at hx)
                have q0 := h.cell (o := 0) rfl
                have q1 := h.cell (o := 1) rfl
                have q2 := h.cell (o := 2) rfl
                have q3 := h.cell (o := 3) rfl
                have q4 := h.cell (o := 4) rfl
                have q5 := h.cell (o := 5) rfl
                have q6 := h.cell (o := 6) rfl
                have q7 := h.cell (o := 7) rfl
                have q8 := h.cell (o := 8) rfl
                have q9 := h.cell (o := 9) rfl
                have q10 := h.cell (o := 10) rfl
                have q11 := h.cell (o := 11) rfl
                have q12 := h.cell (o := 12) rfl
                have q13 := h.cell (o := 13) rfl
                have q14 := h.cell (o := 14) rfl
                have q15 := h.cell (o := 15) rfl
                simp [go_sem, q0, q1, q2, q3, q4, q5, q6, q7, q8, q9, q10, q11, q12, q13, q14, q15]
              go_big_quiet_on
              refine wpQuiet_nil ?_
              refine part_step (s := 1) v1e (by go_simp; exact rfl) (by kernel_rfl) (by kernel_rfl) (fun H wx hs hn hp hc => ?_) ?_
              · have h0 := hp 0 (by simp)
                obtain ⟨u0, hu0⟩ : ∃ u, H 0 = some u := Option.isSome_iff_exists.1 h0
                have hu1 : u0 = tabI tagS 1 ca 4 cc ia 1 ic := by rw [← v0e]; exact subP_eq hs hu0
                subst hu1
                have ht := hc.c0 _ _ _ _ hu0 hn
                refine callUpon_mk (f := 25) (args := #[tabI tagS 1 ca 4 cc ia 1 ic, .agg #[.int .u8 7, .string ⟨#[116]⟩, .int .u32 0, .slice none 0 0, .slice none 0 0, .pointer (some ⟨d, 0, none⟩), .string ⟨#[97]⟩, .bool false, .int .i64 2, .string ⟨#[]⟩, .int .i64 0, .slice none 0 0, .slice none 0 0, .int .u64 0, .int .u64 0, .bool false]]) (by simp [go_sem]) ?_
                exact (hmk.out wx hc.b _ _ _ _ ht).mono fun e w'' ⟨he, h2⟩ => ⟨_, he, hc.make h2⟩
              refine part_chunk [] 3 _ _ _ (by kernel_rfl) (by kernel_rfl) (by decide) ?_
              simp only [List.take_succ_cons, List.take_zero, List.drop_succ_cons, List.drop_zero]
              iterate 3 (go_big_quiet_want; go_big_quiet_op; first | go_big_quiet_on | (refine ⟨_, fun _ _ => rfl, ?_⟩; go_big_quiet_on))
              refine wpQuiet_nil ?_
              refine part_step (s := 2) v2e (by go_simp; exact rfl) (by kernel_rfl) (by kernel_rfl) (fun H wx hs hn hp hc => ?_) ?_
              · exact callUpon_value (by simp [go_sem, plZ]; try rfl) (hc.new2 hn)
              refine part_step (s := 3) v3e (by go_simp; exact rfl) (by kernel_rfl) (by kernel_rfl) (fun H wx hs hn hp hc => ?_) ?_
              · have h1 := hp 1 (by simp)
                have h2 := hp 2 (by simp)
                obtain ⟨u2, hu2⟩ : ∃ u, H 2 = some u := Option.isSome_iff_exists.1 h2
                have hu3 : u2 = .pointer (some ⟨b, 0, none⟩) := by rw [← v2e]; exact subP_eq hs hu2
                subst hu3
                obtain ⟨b2, e1, e2, hh⟩ := hc.c2 _ hu2
                cases e1
                have hn3 : H 3 = none := hn
                rw [hn3] at hh
                obtain ⟨w2, g0, g1, g2⟩ := plan_store (new := M) hh rfl hMl.out hM1.out
                exact callUpon_storeA (.tmp 7) (.tmp 43) 43 rfl g0 (hc.sto hu2 h1 g1 g2)
              refine part_chunk [] 1 _ _ _ (by kernel_rfl) (by kernel_rfl) (by decide) ?_
              simp only [List.take_succ_cons, List.take_zero, List.drop_succ_cons, List.drop_zero]
              iterate 1 (go_big_quiet_want; go_big_quiet_op; first | go_big_quiet_on | (refine ⟨_, fun _ _ => rfl, ?_⟩; go_big_quiet_on))
              refine wpQuiet_nil ?_
              intro wz hz
              obtain ⟨_, _, _, bz, e2z, hbz, HZ, hbZ⟩ := hz.done
              rw [v2e] at e2z
              cases e2z
              replace HZ := Lib.hid HZ
              replace hbZ := Lib.hid hbZ
              clear hz
              go_wp2_with fail
              go_meet
              exact ⟨_, rfl, rfl, HZ.out, hbZ.out⟩
          case rest =>
            rename World => w8
            obtain ⟨b, rfl, rfl, HP, hb8⟩ := hcut
            as_aux_lemma =>
              have hE8 := hE7.out.below hb8
              have hbA := hb7.out.trans (hb8.mono hb7.out.size)
              have htx := text_p3 hE8 (colN 3) 1 false 3 ⟨#[]⟩ false 0 true 0 ByteArray.empty false 0 4294967295 (by decide) (by decide) (some ⟨d, 0, none⟩) (colN 0) false 2 (by decide) (by decide) (by decide) (by decide) (by rw [show (⟨1, false, 3, ⟨#[]⟩, false⟩ : RV) = intR 3 from rfl, show (⟨0, true, 0, ByteArray.empty, false⟩ : RV) = RVN from rfl, show (some (⟨d, 0, none⟩ : Addr)).isSome = true from rfl, text_D2]; decide)
              rw [show (⟨1, false, 3, ⟨#[]⟩, false⟩ : RV) = intR 3 from rfl, show (⟨0, true, 0, ByteArray.empty, false⟩ : RV) = RVN from rfl, show (some (⟨d, 0, none⟩ : Addr)).isSome = true from rfl, text_D2] at htx
              have htx2 : Calls Tryz.prog 15 #[.agg M.toArray] w8 (RPost w8 (.string (ba sayL))) := by rw [hM.out]; exact htx
              have hld := plan_load HP hMl.out
              replace hld := Lib.hid hld
              replace htx2 := Lib.hid htx2
              clear htx HP hb8 hE8
              replace hbA := Lib.hid hbA
              have hse : ((ba sayL).toList == sayL) = true := by rw [ByteArray.toList_eq]; simp [ba]
              obtain ⟨sx, hsx⟩ : ∃ sx, sx = ba sayL := ⟨_, rfl⟩
              rw [← hsx] at htx2 hse
              unfold sayL at hse
              replace hsx := Lib.hid hsx
              go_wp2_with (refine wpList_loadG (by first | rfl | simp [Region.wanted, yielded]) (.tmp 7) 43 rfl _ hld.out ?_)
              refine htx2.out.mono ?_
              rintro e w9 ⟨rfl, hb9⟩
              have hfin2 := Lib.hid (hfin.out w9 (hbA.out.trans (hb9.mono hbA.out.size)))
              clear hb9
              go_wp2_with fail
              exact hfin2.out
end Go.Proofs.YtgnoikfmhncbmaaGreatDoor
