/- Walks: Eval of a condition that has no error, for a row that fits. -/
import Derived.Test.YtgnoikfmhncbmaaGreatDoorV3
import Derived.Test.YtgnoikfmhncbmaaGreatDoorV0
set_option linter.unusedVariables false
set_option linter.unusedSimpArgs false
namespace Go.Proofs.YtgnoikfmhncbmaaGreatDoor
open Go.RowKit Go.Lib Go.BigFrame
/-- The value of a column in a row, by its name. -/
def colV (cs : List CV) (vs : List RV) (id : Nat) (cc : ByteArray) : RV := if (cc.toList == idS.toList) = true then ⟨1, false, (id : Int), ByteArray.empty, false⟩ else vs.getD (findI cs cc 0).toNat RV0
/-- What Eval answers. -/
def evB (cs : List CV) (vs : List RV) (id : Nat) (t : AT) : Bool := t.nil? || decide (evP (colV cs vs id) t = 2)
def ColR (cs : List CV) (ci : Nat → Option Addr → Prop) : Prop := True
/-- Eval's loop over the postorder. -/
structure EvI (w : World) (root : AT) (bm : Nat) (R : ByteArray → RV) (w4 : World) (k : Nat) (m : Nat → Option Value) (wr : World) : Prop where
  om : OM w root bm m wr
  ok : ∀ j u, j < k → (postO root)[j]? = some u → m u.b = some (.int .i64 (evP R u))
  o : Only (fun i => i = bm ∨ w4.heap.size ≤ i) w4 wr
theorem EvI.next {w : World} {root : AT} {bm : Nat} {R : ByteArray → RV} {w4 wr w' : World} {k : Nat} {m : Nat → Option Value} (h : EvI w root bm R w4 k m wr) (hnd : root.addrs.Nodup) {u : AT} (hu : (postO root)[k]? = some u) {m' : Nat → Option Value} (hm : m' = setM m u.b (.int .i64 (evP R u))) (M : OM w root bm m' w') {S : Nat → Prop} (ho : Only S wr w') (hS : ∀ i, i < wr.heap.size → S i → i = bm ∨ w4.heap.size ≤ i) : EvI w root bm R w4 (k + 1) m' w' := by
  refine ⟨M, fun j x hj hx => ?_, h.o.trans' ho (fun i hi hs => hS i (Nat.lt_of_lt_of_le hi h.o.size) hs)⟩
  rw [hm]
  by_cases e : j = k
  · subst e
    rw [hu] at hx
    cases hx
    exact setM_same _ _ _
  · have hne : x.b ≠ u.b := fun eb => by
      have hn := postO_nodup root hnd
      have g1 : ((postO root).map AT.b)[j]? = some x.b := by rw [List.getElem?_map, hx]; rfl
      have g2 : ((postO root).map AT.b)[k]? = some u.b := by rw [List.getElem?_map, hu]; rfl
      have hjl : j < ((postO root).map AT.b).length := by
        rcases Nat.lt_or_ge j ((postO root).map AT.b).length with g | g
        · exact g
        · rw [List.getElem?_eq_none g] at g1; cases g1
      exact e ((List.getElem?_inj hjl hn).1 (by rw [g1, g2, eb]))
    rw [setM_ne _ _ hne]
    exact h.ok j x (by omega) hx
/-- The classes of the region that looks a column up and takes its value. -/
def FdC (w0 : World) (bx q : Nat) (nc : List Value) : List Value → World → Prop
  | [], w => Below w0.heap.size w0 w
  | [r], w => r = .int .i64 (q : Int) ∧ Below w0.heap.size w0 w
  | [r, u], w => r = .int .i64 (q : Int) ∧ u = undef ∧ Has w bx nc 28 ∧ Only (fun i => i = bx ∨ w0.heap.size ≤ i) w0 w
  | _, _ => False
theorem FdC.only {w0 : World} {bx q : Nat} {nc : List Value} : ∀ {vs : List Value} {w : World}, FdC w0 bx q nc vs w → Only (fun i => i = bx ∨ w0.heap.size ≤ i) w0 w
  | [], _, h => (Only.of_below h).mono (fun i _ e => .inr e)
  | [_], _, h => (Only.of_below h.2).mono (fun i _ e => .inr e)
  | [_, _], _, h => h.2.2.2
  | _ :: _ :: _ :: _, _, h => h.elim
theorem FdC.sto {w0 w : World} {bx q : Nat} {o0 o1 o2 o3 o4 v0 v1 v2 v3 v4 r : Value} (hb : Has w0 bx [o0, o1, o2, o3, o4] 28) (h : FdC w0 bx q [v0, v1, v2, v3, v4] [r] w) :
    FdC w0 bx q [v0, v1, v2, v3, v4] [r, undef] (((((w.setCell ⟨bx, 0, none⟩ v0).setCell ⟨bx, 1, none⟩ v1).setCell ⟨bx, 2, none⟩ v2).setCell ⟨bx, 3, none⟩ v3).setCell ⟨bx, 4, none⟩ v4) := by
  have hw := hb.only (Only.of_below h.2) (Nat.not_le.2 hb.lt)
  refine ⟨h.1, rfl, ((((hw.set 0 v0).set 1 v1).set 2 v2).set 3 v3).set 4 v4, ?_⟩
  have h0 : Only (fun i => i = bx ∨ w0.heap.size ≤ i) w0 w := (Only.of_below h.2).mono (fun i _ e => .inr e)
  exact ((((h0.setCell (a := ⟨bx, 0, none⟩) (fun _ => .inl rfl) _).setCell (a := ⟨bx, 1, none⟩) (fun _ => .inl rfl) _).setCell (a := ⟨bx, 2, none⟩) (fun _ => .inl rfl) _).setCell (a := ⟨bx, 3, none⟩) (fun _ => .inl rfl) _).setCell (a := ⟨bx, 4, none⟩) (fun _ => .inl rfl) _
theorem FdC.ex {w0 : World} {bx q : Nat} {o0 o1 o2 o3 o4 v0 v1 v2 v3 v4 : Value} (hb : Has w0 bx [o0, o1, o2, o3, o4] 28) : ∀ (vs : List Value) (w : World), vs.length < 2 → FdC w0 bx q [v0, v1, v2, v3, v4] vs w → ∃ v w', FdC w0 bx q [v0, v1, v2, v3, v4] (vs ++ [v]) w'
  | [], w, _, h => ⟨_, w, rfl, h⟩
  | [_], w, _, h => ⟨_, _, FdC.sto hb h⟩
  | [_, _], _, hl, _ => by simp at hl
  | _ :: _ :: _ :: _, _, hl, _ => by simp at hl; omega
variable {root : AT} {w : World}
set_option maxHeartbeats 16000000 in
set_option maxRecDepth 100000 in
theorem eval_any (hA : root.At w) (hnd : root.addrs.Nodup) (hsz : root.size ≤ 20000000) (hF : root.Fit) (tn : ByteArray) (ver : Int) (cs : List CV) (ca : Option Addr) (cp : Nat) (ia : Option Addr) (il ic : Nat) (hr : Rd w (.slice ca cs.length cp) cs.length (cCells cs)) (hll : cs.length ≤ 100000)
    (hck : checkP cs root = 0) (id : Nat) (hid : id < 4294967296) (vs : List RV) (va : Option Addr) (vc : Nat) (hrv : Rd w (.slice va vs.length vc) vs.length (vCells vs)) (hvl : vs.length = cs.length) (hty : ∀ k, k < cs.length → (vs.getD k RV0).nl = false → (vs.getD k RV0).ty = (cs.getD k CV0).ty) (htx : ∀ v ∈ vs, v.tx.size ≤ 140737488351232) :
    Calls Tryz.prog 22 #[root.ptr, tabI tn ver ca cs.length cp ia il ic, .int .u32 (id : Int), .slice va vs.length vc] w (RPost w (.tuple #[.bool (evB cs vs id root), .int .i64 0])) := by
  generalize hpost : RPost w (.tuple #[.bool (evB cs vs id root), .int .i64 0]) = post
  have hf : ∀ r w', evB cs vs id root = r → Below w.heap.size w w' → post (.returned (.tuple #[.bool r, .int .i64 0])) w' := fun r w' h1 h2 => by rw [← hpost, h1]; exact ⟨rfl, h2⟩
  clear hpost
  replace hf := Lib.hid hf
  obtain ⟨n, hnn⟩ : ∃ n, cs.length = n := ⟨_, rfl⟩
  obtain ⟨W1, hW1⟩ : ∃ W1, W1 = w.alloc (.cells #[.string tn, .int .i64 ver, .slice ca n cp, .slice ia il ic, .int .u64 0, .int .u64 0] 59) := ⟨_, rfl⟩
  have hb1 : Below w.heap.size w W1 := by rw [hW1]; exact (Below.refl _ _).alloc (Nat.le_refl _) _
  have hT : Has W1 w.heap.size [.string tn, .int .i64 ver, .slice ca n cp, .slice ia il ic, .int .u64 0, .int .u64 0] 59 := by rw [hW1]; exact Has.new w _ _
  have hA1 := hA.below hb1
  have hr1 := hr.kept hb1
  have hv1 := hrv.kept hb1
  have hc := check_any (root := root) hA1 hnd hsz tn ver cs ca cp ia il ic hr1 hll
  rw [hck] at hc
  rw [hvl]
  rw [hvl] at hv1
  unfold tabI at hc ⊢

  obtain ⟨pt, hpt⟩ := AT.isP root
  rw [hpt] at hc ⊢
  rw [hnn] at hc hr1 hv1 hvl hty hll ⊢
  have wf := wf_check hck
  have t0 := hT.cell (o := 0) rfl
  have t1 := hT.cell (o := 1) rfl
  have t2 := hT.cell (o := 2) rfl
  have t3 := hT.cell (o := 3) rfl
  have t4 := hT.cell (o := 4) rfl
  have t5 := hT.cell (o := 5) rfl
  clear hA hr hrv
  replace hW1 := Lib.hid hW1.symm
  replace hc := Lib.hid hc
  replace hb1 := Lib.hid hb1
  replace hT := Lib.hid hT
  replace hA1 := Lib.hid hA1
  replace hr1 := Lib.hid hr1
  replace hv1 := Lib.hid hv1
  replace hvl := Lib.hid hvl
  replace hck := Lib.hid hck
  replace hpt := Lib.hid hpt
  replace hnn := Lib.hid hnn
  replace hid := Lib.hid hid
  replace hsz := Lib.hid hsz
  replace hty := Lib.hid hty
  replace hll := Lib.hid hll
  replace hnd := Lib.hid hnd
  replace hF := Lib.hid hF
  replace htx := Lib.hid htx
  replace wf := Lib.hid wf
  go_enter Tryz.func22, Tryz.ntmps22
  go_upto_region 1 with fail
  rw [hW1.out]
  go_wp2_with fail
  refine hc.out.mono ?_
  rintro e w2 ⟨rfl, hb2⟩
  have hb02 := hb1.out.trans (hb2.mono hb1.out.size)
  have hT2 := hT.out.only (Only.of_below hb2) (Nat.not_le.2 hT.out.lt)
  have hA2 := hA1.out.below hb2
  have hr2 := hr1.out.kept hb2
  have hv2 := hv1.out.kept hb2
  clear t0 t1 t2 t3 t4 t5 hc hb2 hT hA1 hr1 hv1 hb1 hW1
  have t2 := hT2.cell (o := 2) rfl
  have n0 : (((0 : Nat) : Int) != 0) = false := rfl
  have nn : ((n : Int) != (n : Int)) = false := by simp
  replace hb02 := Lib.hid hb02
  replace hT2 := Lib.hid hT2
  replace hA2 := Lib.hid hA2
  replace hr2 := Lib.hid hr2
  replace hv2 := Lib.hid hv2
  have hcol : ∀ k, k < n → ∃ b off, ca = some ⟨b, off, none⟩ ∧ ∀ wx, Below w2.heap.size w2 wx → ∀ j u, (cs.getD k CV0).cells[j]? = some u → wx.cell? ⟨b, off + k * 9 + j, none⟩ = some u := fun k hk => by
    obtain ⟨b, off, cap, hv, hc⟩ := hr2.out.cells (by omega)
    simp only [Value.slice.injEq] at hv
    refine ⟨b, off, hv.1, fun wx hb j u hj => ?_⟩
    have := cellk hb (hc _ _ (cc_get (by rw [hnn.out]; exact hk) j u hj))
    rw [← Nat.add_assoc] at this
    exact this
  have hval : ∀ k, k < n → ∃ b off, va = some ⟨b, off, none⟩ ∧ ∀ wx, Below w2.heap.size w2 wx → ∀ j u, (vs.getD k RV0).cells[j]? = some u → wx.cell? ⟨b, off + k * 5 + j, none⟩ = some u := fun k hk => by
    obtain ⟨b, off, cap, hv, hc⟩ := hv2.out.cells (by omega)
    simp only [Value.slice.injEq] at hv
    refine ⟨b, off, hv.1, fun wx hb j u hj => ?_⟩
    have := cellk hb (hc _ _ (vc_get (by rw [hvl.out]; exact hk) j u hj))
    rw [← Nat.add_assoc] at this
    exact this
  have kT := fun wx (hb : Below w2.heap.size w2 wx) => hT2.out.only (Only.of_below hb) (Nat.not_le.2 hT2.out.lt)
  have kA := fun wx (hb : Below w2.heap.size w2 wx) => hA2.out.below hb
  have kr := fun wx (hb : Below w2.heap.size w2 wx) => hr2.out.kept hb
  have kb := fun wx (hb : Below w2.heap.size w2 wx) => hb02.out.trans (hb.mono hb02.out.size)
  clear hT2 hA2 hr2 hv2
  replace hcol := Lib.hid hcol
  replace hval := Lib.hid hval
  replace kT := Lib.hid kT
  replace kA := Lib.hid kA
  replace kr := Lib.hid kr
  replace kb := Lib.hid kb
  go_wp2_with fail
  go_loopw [34] (fun i wr => ∃ k : Nat, k ≤ n ∧ i = .int .i64 (k : Int) ∧ Below w2.heap.size w2 wr) (fun i _ => n - (RowKit.intOf i).toNat)
  case atStart => exact ⟨0, by omega, rfl, Below.refl _ _⟩
  case round =>
    obtain ⟨k, hk, rfl, hB⟩ := hrel
    clear t2
    by_cases hlt : k < n
    · have k1 : (k : Int) < (n : Int) := by omega
      have hll2 := hll.out
      have kw := Lib.hid (show wrap64 ((k : Int) + 1) = ((k + 1 : Nat) : Int) from by unfold wrap64; omega)
      have kd : decide ((k : Int) < (n : Int)) = true := decide_eq_true k1
      have k0 : (0 : Int) ≤ (k : Int) := by omega
      obtain ⟨b, off, hca, hc⟩ := hcol.out k hlt
      obtain ⟨b2, off2, hva, hc2⟩ := hval.out k hlt
      subst hca hva
      have ht := hty.out k hlt
      obtain ⟨⟨nm, ty, nl, sc, ⟨dty, dnl, dn, dtx, db⟩⟩, hg⟩ : ∃ q, cs.getD k CV0 = q := ⟨_, rfl⟩
      obtain ⟨⟨vty, vnl, vn, vtx, vb⟩, hg2⟩ : ∃ q, vs.getD k RV0 = q := ⟨_, rfl⟩
      rw [hg] at hc ht
      rw [hg2] at hc2 ht
      have hcw := hc wr hB
      have c0 : wr.cell? ⟨b, off + k * 9, none⟩ = some (.string nm) := hcw 0 _ rfl
      have c1 : wr.cell? ⟨b, off + k * 9 + 1, none⟩ = some (.int .u8 (ty : Int)) := hcw 1 _ rfl
      have c2 : wr.cell? ⟨b, off + k * 9 + 2, none⟩ = some (.bool nl) := hcw 2 _ rfl
      have c3 : wr.cell? ⟨b, off + k * 9 + 3, none⟩ = some (.int .i64 sc) := hcw 3 _ rfl
      have c4 : wr.cell? ⟨b, off + k * 9 + 4, none⟩ = some (.int .u8 (dty : Int)) := hcw 4 _ rfl
      have c5 : wr.cell? ⟨b, off + k * 9 + 5, none⟩ = some (.bool dnl) := hcw 5 _ rfl
      have c6 : wr.cell? ⟨b, off + k * 9 + 6, none⟩ = some (.int .i64 dn) := hcw 6 _ rfl
      have c7 : wr.cell? ⟨b, off + k * 9 + 7, none⟩ = some (.string dtx) := hcw 7 _ rfl
      have c8 : wr.cell? ⟨b, off + k * 9 + 8, none⟩ = some (.bool db) := hcw 8 _ rfl
      obtain ⟨W3, hW3⟩ : ∃ W3, W3 = wr.alloc (.cells #[.string nm, .int .u8 (ty : Int), .bool nl, .int .i64 sc, .int .u8 (dty : Int), .bool dnl, .int .i64 dn, .string dtx, .bool db] 108) := ⟨_, rfl⟩
      have hb3 : Below w2.heap.size w2 W3 := by rw [hW3]; exact hB.alloc hB.size _
      have HC : Has W3 wr.heap.size [.string nm, .int .u8 (ty : Int), .bool nl, .int .i64 sc, .int .u8 (dty : Int), .bool dnl, .int .i64 dn, .string dtx, .bool db] 108 := by rw [hW3]; exact Has.new wr _ _
      replace hW3 := Lib.hid hW3.symm
      clear hcw hg hg2 hc hll2
      replace hc2 := Lib.hid hc2
      replace HC := Lib.hid HC
      replace hb3 := Lib.hid hb3
      replace ht := Lib.hid ht
      replace hB := Lib.hid hB
      go_upto_region 9 with fail
      rw [hW3.out]
      clear c0 c1 c2 c3 c4 c5 c6 c7 c8
      have kC := fun wx (hb : Below W3.heap.size W3 wx) => HC.out.only (Only.of_below hb) (Nat.not_le.2 HC.out.lt)
      have kV := fun wx (hb : Below W3.heap.size W3 wx) => hc2.out wx (hb3.out.trans (hb.mono hb3.out.size))
      replace kC := Lib.hid kC
      replace kV := Lib.hid kV
      cases vnl with
      | true =>
        refine wp_region_quietC (C := fun wx => Below W3.heap.size W3 wx) (by kernel_rfl) (by kernel_rfl) (below_drew (Below.refl _ _)) ?_
        go_big_quiet_want; go_big_quiet_op; first | go_big_quiet_on | (refine ⟨_, fun _ _ => rfl, ?_⟩; go_big_quiet_on)
        go_big_quiet_want; go_big_quiet_op; first | go_big_quiet_on | (refine ⟨_, fun _ _ => rfl, ?_⟩; go_big_quiet_on)
        go_big_quiet_want; go_big_quiet_op; first | go_big_quiet_on | (refine ⟨_, fun _ _ => rfl, ?_⟩; go_big_quiet_on)
        go_big_quiet_want; go_big_quiet_op; first | go_big_quiet_on | (refine ⟨_, fun _ _ => rfl, ?_⟩; go_big_quiet_on)
        go_big_quiet_want; go_big_quiet_op
        refine ⟨.bool true, fun wx hx => by have := kV.out wx hx 1 _ rfl; simp [go_sem, this], ?_⟩
        go_big_quiet_on
        go_big_quiet_want; go_big_quiet_op; first | go_big_quiet_on | (refine ⟨_, fun _ _ => rfl, ?_⟩; go_big_quiet_on)
        go_big_quiet_want; go_big_quiet_op; first | go_big_quiet_on | (refine ⟨_, fun _ _ => rfl, ?_⟩; go_big_quiet_on)
        iterate 8 go_big_quiet_skip
        go_big_quiet_want; go_big_quiet_op; first | go_big_quiet_on | (refine ⟨_, fun _ _ => rfl, ?_⟩; go_big_quiet_on)
        refine wpQuiet_nil ?_
        intro w4 h4
        have hb4 := Lib.hid (hb3.out.trans (h4.mono hb3.out.size))
        clear h4
        go_wp2_with fail
        rw [kw.out]
        go_roundw
        case rel => exact ⟨k + 1, by omega, rfl, hb4.out⟩
        case measure => simp [RowKit.intOf]; omega
      | false =>
        have hty2 : vty = ty := ht.out rfl
        have nt : ((ty : Int) != (ty : Int)) = false := by simp
        subst hty2
        refine wp_region_quietC (C := fun wx => Below W3.heap.size W3 wx) (by kernel_rfl) (by kernel_rfl) (below_drew (Below.refl _ _)) ?_
        go_big_quiet_want; go_big_quiet_op; first | go_big_quiet_on | (refine ⟨_, fun _ _ => rfl, ?_⟩; go_big_quiet_on)
        go_big_quiet_want; go_big_quiet_op; first | go_big_quiet_on | (refine ⟨_, fun _ _ => rfl, ?_⟩; go_big_quiet_on)
        go_big_quiet_want; go_big_quiet_op; first | go_big_quiet_on | (refine ⟨_, fun _ _ => rfl, ?_⟩; go_big_quiet_on)
        go_big_quiet_want; go_big_quiet_op; first | go_big_quiet_on | (refine ⟨_, fun _ _ => rfl, ?_⟩; go_big_quiet_on)
        go_big_quiet_want; go_big_quiet_op
        refine ⟨.bool false, fun wx hx => by have := kV.out wx hx 1 _ rfl; simp [go_sem, this], ?_⟩
        go_big_quiet_on
        go_big_quiet_want; go_big_quiet_op; first | go_big_quiet_on | (refine ⟨_, fun _ _ => rfl, ?_⟩; go_big_quiet_on)
        go_big_quiet_want; go_big_quiet_op; first | go_big_quiet_on | (refine ⟨_, fun _ _ => rfl, ?_⟩; go_big_quiet_on)
        go_big_quiet_want; go_big_quiet_op; first | go_big_quiet_on | (refine ⟨_, fun _ _ => rfl, ?_⟩; go_big_quiet_on)
        go_big_quiet_want; go_big_quiet_op; first | go_big_quiet_on | (refine ⟨_, fun _ _ => rfl, ?_⟩; go_big_quiet_on)
        go_big_quiet_want; go_big_quiet_op; first | go_big_quiet_on | (refine ⟨_, fun _ _ => rfl, ?_⟩; go_big_quiet_on)
        go_big_quiet_want; go_big_quiet_op; first | go_big_quiet_on | (refine ⟨_, fun _ _ => rfl, ?_⟩; go_big_quiet_on)
        go_big_quiet_want; go_big_quiet_op
        refine ⟨.int .u8 (vty : Int), fun wx hx => by have := kV.out wx hx 0 _ rfl; simp [go_sem] at this ⊢; simp [this], ?_⟩
        go_big_quiet_on
        go_big_quiet_want; go_big_quiet_op; first | go_big_quiet_on | (refine ⟨_, fun _ _ => rfl, ?_⟩; go_big_quiet_on)
        go_big_quiet_want; go_big_quiet_op
        refine ⟨.int .u8 (vty : Int), fun wx hx => by have := (kC.out wx hx).cell (o := 1) rfl; simp [go_sem, this], ?_⟩
        go_big_quiet_on
        go_big_quiet_want; go_big_quiet_op
        refine ⟨.bool false, fun wx hx => by first | rfl | simp, ?_⟩
        go_big_quiet_on
        go_big_quiet_want; go_big_quiet_op; first | go_big_quiet_on | (refine ⟨_, fun _ _ => rfl, ?_⟩; go_big_quiet_on)
        refine wpQuiet_nil ?_
        intro w4 h4
        have hb4 := Lib.hid (hb3.out.trans (h4.mono hb3.out.size))
        clear h4
        go_wp2_with fail
        rw [kw.out]
        go_roundw
        case rel => exact ⟨k + 1, by omega, rfl, hb4.out⟩
        case measure => simp [RowKit.intOf]; omega
    · have hkn : k = n := by omega
      subst hkn
      have k1 : ¬ (k : Int) < (k : Int) := by omega
      have kd : decide ((k : Int) < (k : Int)) = false := decide_eq_false k1
      clear hk hlt
      replace hB := Lib.hid hB
      by_cases hn : root.nil? = true
      · have hq : pt = none := by
          have := hpt.out
          cases root with
          | nil => simpa [AT.ptr] using this.symm
          | node _ _ _ _ _ _ => cases hn
        subst hq
        have hfin := Lib.hid (hf.out true wr (by unfold evB; rw [hn]; rfl) (kb.out wr hB.out))
        replace hn := Lib.hid hn
        go_wp2_with fail
        first | exact hfin.out | (go_ret2; exact hfin.out) | (go_ret; exact hfin.out)
      · have hn : root.nil? = false := by simpa using hn
        have hq : pt = some ⟨root.b, 0, none⟩ := by
          have := hpt.out
          rw [AT.ptr_b hn] at this
          simpa [ptrV] using this.symm
        subst hq
        have hp := post_any (root := root) hn (kA.out wr hB.out) hnd.out hsz.out
        rw [hpt.out] at hp
        replace hp := Lib.hid hp
        replace hn := Lib.hid hn
        clear k1 kd
        go_wp2_with fail
        refine hp.out.mono ?_
        rintro e w5 ⟨la, lc, rfl, own5, hown5, hb5⟩
        have hb25 := hB.out.trans (hb5.mono hB.out.size)
        obtain ⟨N, hN⟩ : ∃ N, (postO root).length = N := ⟨_, rfl⟩
        rw [hN] at own5 ⊢
        have hA5 := kA.out w5 hb25
        obtain ⟨W6, hW6⟩ : ∃ W6, W6 = w5.alloc (.map #[] 0) := ⟨_, rfl⟩
        have hb6 : Below w5.heap.size w5 W6 := by rw [hW6]; exact (Below.refl _ _).alloc (Nat.le_refl _) _
        have hz6 : W6.heap.size = w5.heap.size + 1 := by rw [hW6]; simp
        have hpm : PM W6 w5.heap.size (fun _ => none) := by rw [hW6]; exact PM.made w5
        have hI : EvI w5 root w5.heap.size (colV cs vs id) W6 0 (fun _ => none) W6 := ⟨⟨hA5.below hb6, hpm, hb6, hA5.lt, (fun a h => by cases h), Nat.le_refl _⟩, (fun j u hj _ => by omega), Only.refl _ _⟩
        have rd5 : Rd w5 (.slice la N lc) N ((postO root).map AT.ptr) := Rd.of_own own5
        have hlst : ∀ k u, (postO root)[k]? = some u → ∃ b off, la = some ⟨b, off, none⟩ ∧ ∀ wx, Only (fun i => i = w5.heap.size ∨ W6.heap.size ≤ i) W6 wx → wx.cell? ⟨b, off + k, none⟩ = some (ptrV u.b) := fun k u hu => by
          have hk : k < N := by
            rcases Nat.lt_or_ge k (postO root).length with g | g
            · omega
            · rw [List.getElem?_eq_none g] at hu; cases hu
          obtain ⟨b, off, cap, hv, hc⟩ := rd5.cells (by omega)
          simp only [Value.slice.injEq] at hv
          refine ⟨b, off, hv.1, fun wx ho => ?_⟩
          have h0 := hc k u.ptr (by rw [List.getElem?_map, hu]; rfl)
          have hblk : b < w5.heap.size := World.block_lt_of_cell? _ _ h0
          have h1 := cellk hb6 h0
          have h2 := ho.cell h1 (by show ¬ (b = w5.heap.size ∨ W6.heap.size ≤ b); omega)
          rw [h2, AT.ptr_b (postO_addrs root u (List.mem_of_getElem? hu)).1]
        have hN2 : N ≤ 20000000 := by rw [← hN]; exact Nat.le_trans (postO_len root) hsz.out
        have hmm := @run_makeMap Tryz.prog
        clear own5 hown5 rd5 hb5 hpm hA5 hp
        replace hW6 := Lib.hid hW6.symm
        replace hI := Lib.hid hI
        replace hlst := Lib.hid hlst
        replace hN2 := Lib.hid hN2
        replace hN := Lib.hid hN
        replace hb25 := Lib.hid hb25
        replace hb6 := Lib.hid hb6
        replace hz6 := Lib.hid hz6
        go_upto_region 16 with fail
        rw [hW6.out]
        clear hmm
        go_wp2_with fail
        go_loopw [66] (fun i wr => ∃ (k : Nat) (m : Nat → Option Value), k ≤ N ∧ i = .int .i64 (k : Int) ∧ EvI w5 root w5.heap.size (colV cs vs id) W6 k m wr) (fun i _ => N - (RowKit.intOf i).toNat)
        case atStart => exact ⟨0, _, Nat.zero_le _, rfl, hI.out⟩
        case round =>
          obtain ⟨k, m, hk, rfl, hI⟩ := hrel
          by_cases hlt : k < N
          · have k1 : (k : Int) < (N : Int) := by omega
            have hN3 := hN2.out
            have kw := Lib.hid (show wrap64 ((k : Int) + 1) = ((k + 1 : Nat) : Int) from by unfold wrap64; omega)
            have kd : decide ((k : Int) < (N : Int)) = true := decide_eq_true k1
            have k0 : (0 : Int) ≤ (k : Int) := by omega
            clear hN3
            obtain ⟨u, hu⟩ : ∃ u, (postO root)[k]? = some u := ⟨_, List.getElem?_eq_getElem (by rw [hN.out]; exact hlt)⟩
            have hmem := List.mem_of_getElem? hu
            obtain ⟨hun, hub⟩ := postO_addrs root u hmem
            have hsub := (postO_sub (AT.Sub.refl root) u hmem).1
            obtain ⟨b0, off, hla, hcl⟩ := hlst.out k u hu
            subst hla
            have c0 := hcl wr hI.o
            have wfu := postO_wf cs wf.out u hmem
            have hkid : ∀ c ∈ kidsQ u, m c.b = some (.int .i64 (evP (colV cs vs id) c)) ∧ c.b ∈ root.addrs ∧ c.ptr = ptrV c.b := fun c hc => by
              obtain ⟨j, hj, e⟩ := postO_before root k u hu c hc
              obtain ⟨g1, g2⟩ := postO_addrs root c (List.mem_of_getElem? e)
              exact ⟨hI.ok j c hj e, g2, AT.ptr_b g1⟩
            have hnext := fun m' w' hm M (S : Nat → Prop) ho hS => hI.next (w' := w') hnd.out hu (m' := m') hm M (S := S) ho hS
            cases u with
            | nil => cases hun
            | node b op cc x l r =>
            replace c0 : wr.cell? ⟨b0, off + k, none⟩ = some (.pointer (some ⟨b, 0, none⟩)) := c0
            replace hub : b ∈ root.addrs := hub
            have hAt : Has wr b (exCells op l.ptr r.ptr cc x) 46 := (hsub.at hI.om.at_).1
            have a0 := hAt.cell (o := 0) rfl
            obtain ⟨hnode, _, _⟩ := wfu
            have hop := node_not hnode
            have hok : ∀ (w' : World) (S : Nat → Prop), OM w5 root w5.heap.size (setM m b (.int .i64 (evP (colV cs vs id) (.node b op cc x l r)))) w' → Only S wr w' → (∀ i, i < wr.heap.size → S i → i = w5.heap.size ∨ W6.heap.size ≤ i) → EvI w5 root w5.heap.size (colV cs vs id) W6 (k + 1) (setM m b (.int .i64 (evP (colV cs vs id) (.node b op cc x l r)))) w' := fun w' S M ho hS => hnext _ w' rfl M S ho hS
            have hfm := Lib.hid hmem
            clear hnext hcl hmem hun hsub hu
            have om := hI.om
            have hIo := hI.o
            replace hok := Lib.hid hok
            replace hI := Lib.hid hI
            replace hAt := Lib.hid hAt
            replace hkid := Lib.hid hkid
            replace hnode := Lib.hid hnode
            replace hub := Lib.hid hub
            replace om := Lib.hid om
            replace hIo := Lib.hid hIo
            by_cases o1 : op = 1
            · have e1 : ((op : Int) == 1) = true := by simp; omega
              obtain ⟨n1, n2⟩ := node_pair hnode.out (.inl o1)
              have hl : l ∈ kidsQ (.node b op cc x l r) := by rw [kidsQ_node, if_pos ⟨.inl o1, n1⟩]; simp
              have hr : r ∈ kidsQ (.node b op cc x l r) := by rw [kidsQ_node]; exact List.mem_append.2 (.inr (by rw [if_pos ⟨.inl o1, n2⟩]; simp))
              obtain ⟨ml, al, pl⟩ := hkid.out l hl
              obtain ⟨mr, ar, pr⟩ := hkid.out r hr
              have lk1 := lookT om.out.drew al
              have lk2 := lookT om.out.drew ar
              have lk3 := lookT om.out al
              have lk4 := lookT om.out ar
              rw [ml, Option.getD_some] at lk1 lk3
              rw [mr, Option.getD_some] at lk2 lk4
              have hev : evP (colV cs vs id) (.node b op cc x l r) = min (evP (colV cs vs id) l) (evP (colV cs vs id) r) := by rw [evP, if_pos o1]
              obtain ⟨w7, hr7, M7, O7⟩ := om.out.drew.putT hub.out (.int .i64 (evP (colV cs vs id) (.node b op cc x l r)))
              have hK := hok.out w7 (fun i => i = w5.heap.size) M7 ((Only.refl _ _).drew.trans O7) (fun i _ e => .inl e)
              have a1 := hAt.out.cell (o := 1) rfl
              have a2 := hAt.out.cell (o := 2) rfl
              rw [pl] at a1
              rw [pr] at a2
              rw [hev] at hr7
              generalize evP (colV cs vs id) l = x1 at lk1 lk3 hr7 hev
              generalize evP (colV cs vs id) r = x2 at lk2 lk4 hr7 hev
              obtain ⟨x3, hx3⟩ : ∃ x3, min x1 x2 = x3 := ⟨_, rfl⟩
              have hx4 : (if x2 < x1 then x2 else x1) = x3 := by rw [← hx3]; split <;> omega
              rw [hx3] at hr7
              replace hr7 := Lib.hid hr7
              replace hK := Lib.hid hK
              replace hev := Lib.hid hev
              replace pl := Lib.hid pl
              replace pr := Lib.hid pr
              replace ml := Lib.hid ml
              replace mr := Lib.hid mr
              clear O7 M7
              go_upto_region 25 with fail
              refine region_tail 15 (by kernel_rfl) (by kernel_rfl) ?_
              simp only [List.take_succ_cons, List.take_zero, List.drop_succ_cons, List.drop_zero]
              repeat still_step
              refine wpStill_nil ?_
              refine wpList_updateM (w' := w7) rfl (.tmp 98) (.tmp 99) (.tmp 112) 119 rfl ?_ ?_
              · exact hr7.out
              simp only [Act.put]
              go_wp2_with fail
              rw [kw.out]
              go_roundw
              case rel => exact ⟨k + 1, _, by omega, rfl, hK.out⟩
              case measure => simp [RowKit.intOf]; omega
            have e1 : ((op : Int) == 1) = false := by simp; omega
            by_cases o2 : op = 2
            · have e2 : ((op : Int) == 2) = true := by simp; omega
              obtain ⟨n1, n2⟩ := node_pair hnode.out (.inr o2)
              have hl : l ∈ kidsQ (.node b op cc x l r) := by rw [kidsQ_node, if_pos ⟨(.inr (.inl o2)), n1⟩]; simp
              have hr : r ∈ kidsQ (.node b op cc x l r) := by rw [kidsQ_node]; exact List.mem_append.2 (.inr (by rw [if_pos ⟨.inr o2, n2⟩]; simp))
              obtain ⟨ml, al, pl⟩ := hkid.out l hl
              obtain ⟨mr, ar, pr⟩ := hkid.out r hr
              have lk1 := lookT om.out.drew al
              have lk2 := lookT om.out.drew ar
              have lk3 := lookT om.out al
              have lk4 := lookT om.out ar
              rw [ml, Option.getD_some] at lk1 lk3
              rw [mr, Option.getD_some] at lk2 lk4
              have hev : evP (colV cs vs id) (.node b op cc x l r) = max (evP (colV cs vs id) l) (evP (colV cs vs id) r) := by rw [evP, if_neg o1, if_pos o2]
              obtain ⟨w7, hr7, M7, O7⟩ := om.out.drew.putT hub.out (.int .i64 (evP (colV cs vs id) (.node b op cc x l r)))
              have hK := hok.out w7 (fun i => i = w5.heap.size) M7 ((Only.refl _ _).drew.trans O7) (fun i _ e => .inl e)
              have a1 := hAt.out.cell (o := 1) rfl
              have a2 := hAt.out.cell (o := 2) rfl
              rw [pl] at a1
              rw [pr] at a2
              rw [hev] at hr7
              generalize evP (colV cs vs id) l = x1 at lk1 lk3 hr7 hev
              generalize evP (colV cs vs id) r = x2 at lk2 lk4 hr7 hev
              obtain ⟨x3, hx3⟩ : ∃ x3, max x1 x2 = x3 := ⟨_, rfl⟩
              have hx4 : (if x2 > x1 then x2 else x1) = x3 := by rw [← hx3]; split <;> omega
              rw [hx3] at hr7
              replace hr7 := Lib.hid hr7
              replace hK := Lib.hid hK
              replace hev := Lib.hid hev
              replace pl := Lib.hid pl
              replace pr := Lib.hid pr
              replace ml := Lib.hid ml
              replace mr := Lib.hid mr
              clear O7 M7
              go_upto_region 27 with fail
              refine region_tail 15 (by kernel_rfl) (by kernel_rfl) ?_
              simp only [List.take_succ_cons, List.take_zero, List.drop_succ_cons, List.drop_zero]
              repeat still_step
              refine wpStill_nil ?_
              refine wpList_updateM (w' := w7) rfl (.tmp 115) (.tmp 116) (.tmp 129) 119 rfl ?_ ?_
              · exact hr7.out
              simp only [Act.put]
              go_wp2_with fail
              rw [kw.out]
              go_roundw
              case rel => exact ⟨k + 1, _, by omega, rfl, hK.out⟩
              case measure => simp [RowKit.intOf]; omega
            have e2 : ((op : Int) == 2) = false := by simp; omega
            by_cases o3 : op = 3
            · have e3 : ((op : Int) == 3) = true := by simp; omega
              have n1 : l.nil? = false := by
                have := hnode.out
                rw [nodeP_eq, if_neg (by omega), if_pos o3] at this
                cases h : l.nil?
                · rfl
                · rw [h] at this; simp at this
              have hl : l ∈ kidsQ (.node b op cc x l r) := by rw [kidsQ_node, if_pos ⟨.inr (.inr o3), n1⟩]; simp
              obtain ⟨ml, al, pl⟩ := hkid.out l hl
              have lk1 := lookT om.out al
              rw [ml, Option.getD_some] at lk1
              have hev : evP (colV cs vs id) (.node b op cc x l r) = 2 - evP (colV cs vs id) l := by rw [evP, if_neg o1, if_neg o2, if_pos o3]
              have hrg := evP_range (colV cs vs id) l
              obtain ⟨w7, hr7, M7, O7⟩ := om.out.putT hub.out (.int .i64 (evP (colV cs vs id) (.node b op cc x l r)))
              have hK := hok.out w7 (fun i => i = w5.heap.size) M7 O7 (fun i _ e => .inl e)
              have a1 := hAt.out.cell (o := 1) rfl
              rw [pl] at a1
              rw [hev] at hr7
              generalize evP (colV cs vs id) l = x1 at lk1 hr7 hev hrg
              obtain ⟨x3, hx3⟩ : ∃ x3, 2 - x1 = x3 := ⟨_, rfl⟩
              have hx4 : wrap64 x3 = x3 := by unfold wrap64; omega
              rw [hx3] at hr7
              replace hr7 := Lib.hid hr7
              replace hK := Lib.hid hK
              replace hev := Lib.hid hev
              replace pl := Lib.hid pl
              replace ml := Lib.hid ml
              replace hrg := Lib.hid hrg
              clear O7 M7
              go_upto_region 29 with fail
              iterate 28 go_step
              refine wpList_updateM (w' := w7) rfl (.tmp 132) (.tmp 133) (.tmp 140) 119 rfl ?_ ?_
              · go_simp
                exact hr7.out
              simp only [Act.put]
              go_wp2_with fail
              rw [kw.out]
              go_roundw
              case rel => exact ⟨k + 1, _, by omega, rfl, hK.out⟩
              case measure => simp [RowKit.intOf]; omega
            have e3 : ((op : Int) == 3) = false := by simp; omega
            have hop4 : 4 ≤ op ∧ op ≤ 10 := by omega
            obtain ⟨z, hz⟩ : ∃ z, (cc.toList == [105, 100]) = z := ⟨_, rfl⟩
            have hz2 : (cc.toList == idS.toList) = z := by rw [idS_l]; exact hz
            have hkx : ∃ kd, kindP cs cc = some kd := by
              have := hnode.out
              rw [nodeP_eq, if_neg (by omega), if_neg (by omega), if_pos hop4] at this
              cases h : kindP cs cc with
              | none => rw [h] at this; simp at this
              | some q => exact ⟨q, rfl⟩
            obtain ⟨kd2, hkd⟩ := hkx
            have hev : evP (colV cs vs id) (.node b op cc x l r) = testP op x (colV cs vs id cc) := by rw [evP, if_neg o1, if_neg o2, if_neg o3]
            have wid : IntKind.i64.wrap (id : Int) = (id : Int) := by
              have := hid.out
              unfold IntKind.wrap
              simp [IntKind.bits, IntKind.signed]
              omega
            have hFu : cc.size ≤ 140737488351232 ∧ x.tx.size ≤ 140737488351232 := by
              have : ∀ {t : AT}, t.Fit → ∀ u ∈ postO t, u.Fit := fun {t} => by
                induction t with
                | nil => intro _ u hu; cases hu
                | node b' op' cc' v' l' r' ihl ihr =>
                  intro hf u hu
                  rw [postO_node] at hu
                  rcases List.mem_append.1 hu with hu | hu
                  · rcases List.mem_append.1 hu with hu | hu
                    · split at hu
                      · exact ihl hf.2.2.2.2.1 u hu
                      · cases hu
                    · split at hu
                      · exact ihr hf.2.2.2.2.2 u hu
                      · cases hu
                  · rw [List.mem_singleton.1 hu]; exact hf
              have := this hF.out _ hfm.out
              exact ⟨this.2.1, this.2.2.2.1⟩
            have hB5 : Below w2.heap.size w2 wr := hb25.out.trans (om.out.b.mono hb25.out.size)
            obtain ⟨W8, hW8⟩ : ∃ W8, W8 = wr.alloc (.cells #[.int .u8 1, .bool false, .int .i64 (id : Int), .string ⟨#[]⟩, .bool false] 28) := ⟨_, rfl⟩
            have hb8 : Below wr.heap.size wr W8 := by rw [hW8]; exact (Below.refl _ _).alloc (Nat.le_refl _) _
            have HB : Has W8 wr.heap.size [.int .u8 1, .bool false, .int .i64 (id : Int), .string ⟨#[]⟩, .bool false] 28 := by rw [hW8]; exact Has.new wr _ _
            have hAt8 := hAt.out.only (Only.of_below hb8) (Nat.not_le.2 hAt.out.lt)
            have x3 := hAt8.cell (o := 3) rfl
            replace hW8 := Lib.hid hW8.symm
            replace hkd := Lib.hid hkd
            replace hev := Lib.hid hev
            replace hFu := Lib.hid hFu
            replace hB5 := Lib.hid hB5
            replace hb8 := Lib.hid hb8
            replace HB := Lib.hid HB
            replace hAt8 := Lib.hid hAt8
            go_upto_region 21 with fail
            rw [hW8.out]
            cases z with
            | true =>
              have hcv : colV cs vs id cc = ⟨1, false, (id : Int), ByteArray.empty, false⟩ := by unfold colV; rw [if_pos hz2]
              have ct := test_any b op l.ptr r.ptr cc x ⟨1, false, (id : Int), ByteArray.empty, false⟩ hFu.out.2 (Nat.zero_le _) W8 hAt8.out
              have hev2 := hev.out
              rw [hcv] at hev2
              obtain ⟨ev, hevv⟩ : ∃ ev, testP op x ⟨1, false, (id : Int), ByteArray.empty, false⟩ = ev := ⟨_, rfl⟩
              rw [hevv] at ct hev2
              have d0 : W8.cell? ⟨wr.heap.size, 0, none⟩ = some (.int .u8 1) := HB.out.cell (o := 0) rfl
              have d1 : W8.cell? ⟨wr.heap.size, 1, none⟩ = some (.bool false) := HB.out.cell (o := 1) rfl
              have d2 : W8.cell? ⟨wr.heap.size, 2, none⟩ = some (.int .i64 (id : Int)) := HB.out.cell (o := 2) rfl
              have d3 : W8.cell? ⟨wr.heap.size, 3, none⟩ = some (.string ⟨#[]⟩) := HB.out.cell (o := 3) rfl
              have d4 : W8.cell? ⟨wr.heap.size, 4, none⟩ = some (.bool false) := HB.out.cell (o := 4) rfl
              have hbY := Lib.hid (hb8.out)
              dsimp only at ct
              replace ct := Lib.hid ct
              replace hev2 := Lib.hid hev2
              replace hevv := Lib.hid hevv
              go_upto_region 23 with fail
              go_wp2_with fail
              refine ct.out.mono ?_
              rintro e w10 ⟨rfl, hb10⟩
              have hbz := hbY.out.trans (hb10.mono hbY.out.size)
              clear d0 d1 d2 d3 d4 ct hb10
              obtain ⟨w7, hr7, M7, O7⟩ := (om.out.below hbz).putT hub.out (.int .i64 (evP (colV cs vs id) (.node b op cc x l r)))
              have hK := hok.out w7 (fun i => wr.heap.size ≤ i ∨ i = w5.heap.size) M7 ((Only.of_below hbz).both O7) (fun i hi e => by rcases e with e | e; (exact .inr (Nat.le_trans hIo.out.size e)); exact .inl e)
              rw [hev2.out] at hr7
              replace hr7 := Lib.hid hr7
              replace hK := Lib.hid hK
              clear O7 M7 hbz
              go_simp
              iterate 1 go_step
              refine wpList_updateM (w' := w7) rfl (.tmp 91) (.tmp 92) (.tmp 95) 119 rfl ?_ ?_
              · go_simp
                exact hr7.out
              simp only [Act.put]
              go_wp2_with fail
              rw [kw.out]
              go_roundw
              case rel => exact ⟨k + 1, _, by omega, rfl, hK.out⟩
              case measure => simp [RowKit.intOf]; omega
            | false =>
              have hfi : ∃ q : Nat, findI cs cc 0 = (q : Int) ∧ q < cs.length := by
                have h := hkd.out
                unfold kindP at h
                rw [if_neg (by rw [hz2]; simp)] at h
                rcases findI_spec cs cc 0 with ⟨g, _⟩ | ⟨q, g1, g2, _⟩
                · rw [g] at h; simp at h
                · exact ⟨q, by rw [g2, Nat.zero_add], g1⟩
              obtain ⟨q, hq, hqn⟩ := hfi
              have hcv0 : colV cs vs id cc = vs.getD q RV0 := by unfold colV; rw [if_neg (by rw [hz2]; simp), hq]; rfl
              have hb28 : Below w2.heap.size w2 W8 := hB5.out.trans (hb8.out.mono hB5.out.size)
              have cF := fun wx (hx : Below w2.heap.size w2 wx) => find_ix tn ver cs ca cp ia il ic cc (q : Int) (hq ▸ findI_is cs cc) wx (by rw [hnn.out]; exact kr.out wx hx) (by rw [hnn.out]; exact hll.out)
              rw [hnn.out] at hqn
              simp only [hnn.out] at cF
              obtain ⟨b2, off2, hva, hc2⟩ := hval.out q hqn
              subst hva
              have hvt0 : (vs.getD q RV0).tx.size ≤ 140737488351232 := htx.out _ (by rw [List.getD, List.getElem?_eq_getElem (by rw [hvl.out]; exact hqn)]; exact List.getElem_mem _)
              obtain ⟨⟨vty, vnl, vn, vtx, vb⟩, hg2⟩ : ∃ y, vs.getD q RV0 = y := ⟨_, rfl⟩
              rw [hg2] at hc2 hcv0 hvt0
              have hcv := hcv0
              have hvt : vtx.size ≤ 140737488351232 := hvt0
              have q1 : (q : Int) < (vs.length : Int) := by rw [hvl.out]; omega
              have q0 : (0 : Int) ≤ (q : Int) := by omega
              rw [hvl.out] at q1
              have cw8 := hc2 wr hB5.out
              have hb2 : b2 < wr.heap.size := World.block_lt_of_cell? _ _ (cw8 0 _ rfl)
              have hTB : w.heap.size < wr.heap.size := Nat.lt_of_lt_of_le (kT.out w2 (Below.refl _ _)).lt hB5.out.size
              have kO : ∀ {nds : List Nat} {Hf : Nat → Value} {wx : World}, clsP (ChC (FdC W8 wr.heap.size q [.int .u8 (vty : Int), .bool vnl, .int .i64 vn, .string vtx, .bool vb]) 2) Hf nds wx → Only (fun i => i = wr.heap.size ∨ W8.heap.size ≤ i) W8 wx := fun h => by
                obtain ⟨vs, _, h2, _⟩ := ChC.at h
                exact h2.only
              have sz8 : wr.heap.size < W8.heap.size := HB.out.lt
              have kT8 : ∀ wx, Only (fun i => i = wr.heap.size ∨ W8.heap.size ≤ i) W8 wx → Has wx w.heap.size [.string tn, .int .i64 ver, .slice ca _ cp, .slice ia il ic, .int .u64 0, .int .u64 0] 59 := fun wx ho => (kT.out W8 hb28).only ho (by omega)
              have kX8 : ∀ wx, Only (fun i => i = wr.heap.size ∨ W8.heap.size ≤ i) W8 wx → Has wx b (exCells op l.ptr r.ptr cc x) 46 := fun wx ho => hAt8.out.only ho (by have := hAt.out.lt; omega)
              have kV8 : ∀ wx, Only (fun i => i = wr.heap.size ∨ W8.heap.size ≤ i) W8 wx → ∀ j y, (RV.cells ⟨vty, vnl, vn, vtx, vb⟩)[j]? = some y → wx.cell? ⟨b2, off2 + q * 5 + j, none⟩ = some y := fun wx ho j y hj => ho.cell (hc2 W8 hb28 j y hj) (by show ¬ (b2 = wr.heap.size ∨ W8.heap.size ≤ b2); omega)
              clear cw8
              replace hq := Lib.hid hq
              replace hqn := Lib.hid hqn
              replace hcv := Lib.hid hcv
              replace hvt := Lib.hid hvt
              replace hc2 := Lib.hid hc2
              replace hb28 := Lib.hid hb28
              replace kT8 := Lib.hid kT8
              replace kX8 := Lib.hid kX8
              replace kV8 := Lib.hid kV8
              replace cF := Lib.hid cF
              clear hb2 hTB sz8
              replace hvt0 := Lib.hid hvt0
              replace hcv0 := Lib.hid hcv0
              replace hg2 := Lib.hid hg2
              go_upto_region 22 with fail
              refine wp_region_part [6, 9] [[], [0]] [] (ChC (FdC W8 wr.heap.size q [.int .u8 (vty : Int), .bool vnl, .int .i64 vn, .string vtx, .bool vb]) 2) (by kernel_rfl) (by kernel_rfl) (by kernel_rfl) (ChC.start (show Below W8.heap.size W8 W8.drew from below_drew (Below.refl _ _))) (ChC.ex (FdC.ex HB.out)) (fun Hf hx => ?_)
              obtain ⟨w', hx⟩ := hx
              obtain ⟨v0e, v1e, _⟩ := hx.done
              clear hx
              refine part_chunk [] 6 0 _ _ (by kernel_rfl) (by kernel_rfl) (by decide) ?_
              simp only [List.take_succ_cons, List.take_zero, List.drop_succ_cons, List.drop_zero]
              iterate 1 (go_big_quiet_want; go_big_quiet_op; first | go_big_quiet_on | (refine ⟨_, fun _ _ => rfl, ?_⟩; go_big_quiet_on))
              go_big_quiet_want; go_big_quiet_op
              refine ⟨.agg #[.string tn, .int .i64 ver, .slice ca _ cp, .slice ia il ic, .int .u64 0, .int .u64 0], fun wx hx => by have h := kT8.out wx (kO hx); simp [go_sem, h.cell (o := 0) rfl, h.cell (o := 1) rfl, h.cell (o := 2) rfl, h.cell (o := 3) rfl, h.cell (o := 4) rfl, h.cell (o := 5) rfl]; try rfl, ?_⟩
              go_big_quiet_on
              iterate 3 (go_big_quiet_want; go_big_quiet_op; first | go_big_quiet_on | (refine ⟨_, fun _ _ => rfl, ?_⟩; go_big_quiet_on))
              go_big_quiet_want; go_big_quiet_op
              refine ⟨.string cc, fun wx hx => by simp [go_sem, (kX8.out wx (kO hx)).cell (o := 3) rfl], ?_⟩
              go_big_quiet_on
              refine wpQuiet_nil ?_
              refine part_step (s := 0) v0e (by go_simp; exact rfl) (by kernel_rfl) (by kernel_rfl) (fun H wx hs hn hp hc => ?_) ?_
              · obtain ⟨vs', hl', hPh, _, hk'⟩ := ChC.step hc hn (.inl rfl) (by decide) hs
                match vs', hl', hPh with
                | [], _, hPh =>
                  refine callUpon_mk (f := 26) (args := #[.agg #[.string tn, .int .i64 ver, .slice ca _ cp, .slice ia il ic, .int .u64 0, .int .u64 0], .string cc]) (by simp [go_sem]; try rfl) ?_
                  exact (cF.out wx (hb28.out.trans (hPh.mono hb28.out.size))).mono fun e w'' ⟨he, hw⟩ => ⟨_, he, hk' _ _ ⟨rfl, hPh.trans (hw.mono hPh.size)⟩⟩
              refine part_chunk [] 2 _ _ _ (by kernel_rfl) (by kernel_rfl) (by decide) ?_
              simp only [List.take_succ_cons, List.take_zero, List.drop_succ_cons, List.drop_zero]
              iterate 1 (go_big_quiet_want; go_big_quiet_op; first | go_big_quiet_on | (refine ⟨_, fun _ _ => rfl, ?_⟩; go_big_quiet_on))
              go_big_quiet_want; go_big_quiet_op
              refine ⟨.agg #[.int .u8 (vty : Int), .bool vnl, .int .i64 vn, .string vtx, .bool vb], fun wx hx => by have h := kV8.out wx (kO hx); have g0 := h 0 _ rfl; have g1 := h 1 _ rfl; have g2 := h 2 _ rfl; have g3 := h 3 _ rfl; have g4 := h 4 _ rfl; simp [go_sem] at g0 g1 g2 g3 g4 ⊢; simp [g0, g1, g2, g3, g4], ?_⟩
              go_big_quiet_on
              refine wpQuiet_nil ?_
              refine part_step (s := 1) v1e (by go_simp; exact rfl) (by kernel_rfl) (by kernel_rfl) (fun H wx hs hn hp hc => ?_) ?_
              · obtain ⟨vs', hl', hPh, _, hk'⟩ := ChC.step hc hn (.inr (hp 0 (by simp))) (by decide) hs
                match vs', hl', hPh with
                | [r0], _, hPh =>
                  have hw := HB.out.only (Only.of_below hPh.2) (Nat.not_le.2 HB.out.lt)
                  refine callUpon_skip (w' := (((((wx.setCell ⟨wr.heap.size, 0, none⟩ (.int .u8 (vty : Int))).setCell ⟨wr.heap.size, 1, none⟩ (.bool vnl)).setCell ⟨wr.heap.size, 2, none⟩ (.int .i64 vn)).setCell ⟨wr.heap.size, 3, none⟩ (.string vtx)).setCell ⟨wr.heap.size, 4, none⟩ (.bool vb))) ?_ (hk' _ _ (FdC.sto HB.out hPh))
                  have y0 := hw.cell (o := 0) rfl
                  have y1 := hw.cell (o := 1) rfl
                  have y2 := hw.cell (o := 2) rfl
                  have y3 := hw.cell (o := 3) rfl
                  have y4 := hw.cell (o := 4) rfl
                  have f0 := hw.free 0
                  have f1 := hw.free 1
                  have f2 := hw.free 2
                  have f3 := hw.free 3
                  have f4 := hw.free 4
                  simp [go_sem, y0, y1, y2, y3, y4, f0, f1, f2, f3, f4]
              intro W9 hz
              obtain ⟨_, _, HB9, hO9⟩ := hz.done
              have hAt9 := kX8.out W9 hO9
              have hb99 : Below wr.heap.size wr W9 := hb8.out.trans (hO9.below hb8.out.size (fun i _ e => by rcases e with e | e; (rw [e]; exact Nat.le_refl _); exact Nat.le_trans hb8.out.size e))
              clear hz v0e v1e hO9
              replace HB9 := Lib.hid HB9
              replace hAt9 := Lib.hid hAt9
              replace hb99 := Lib.hid hb99
              go_upto_region 23 with fail
              replace HB9 := HB9.out
              replace hAt9 := hAt9.out
              replace hb99 := hb99.out
              replace hcv := hcv.out
              replace hvt := hvt.out
              have ct := test_any b op l.ptr r.ptr cc x ⟨vty, vnl, vn, vtx, vb⟩ hFu.out.2 hvt W9 hAt9
              have hev2 := hev.out
              rw [hcv] at hev2
              obtain ⟨ev, hevv⟩ : ∃ ev, testP op x ⟨vty, vnl, vn, vtx, vb⟩ = ev := ⟨_, rfl⟩
              rw [hevv] at ct hev2
              have d0 : W9.cell? ⟨wr.heap.size, 0, none⟩ = some (.int .u8 (vty : Int)) := HB9.cell (o := 0) rfl
              have d1 : W9.cell? ⟨wr.heap.size, 1, none⟩ = some (.bool vnl) := HB9.cell (o := 1) rfl
              have d2 : W9.cell? ⟨wr.heap.size, 2, none⟩ = some (.int .i64 vn) := HB9.cell (o := 2) rfl
              have d3 : W9.cell? ⟨wr.heap.size, 3, none⟩ = some (.string vtx) := HB9.cell (o := 3) rfl
              have d4 : W9.cell? ⟨wr.heap.size, 4, none⟩ = some (.bool vb) := HB9.cell (o := 4) rfl
              have hbY := Lib.hid hb99
              dsimp only at ct
              replace HB9 := Lib.hid HB9
              replace hAt9 := Lib.hid hAt9
              clear hb99
              replace hcv := Lib.hid hcv
              replace hvt := Lib.hid hvt
              replace ct := Lib.hid ct
              replace hev2 := Lib.hid hev2
              replace hevv := Lib.hid hevv
              go_wp2_with fail
              refine ct.out.mono ?_
              rintro e w10 ⟨rfl, hb10⟩
              have hbz := hbY.out.trans (hb10.mono hbY.out.size)
              clear d0 d1 d2 d3 d4 ct hb10
              obtain ⟨w7, hr7, M7, O7⟩ := (om.out.below hbz).putT hub.out (.int .i64 (evP (colV cs vs id) (.node b op cc x l r)))
              have hK := hok.out w7 (fun i => wr.heap.size ≤ i ∨ i = w5.heap.size) M7 ((Only.of_below hbz).both O7) (fun i hi e => by rcases e with e | e; (exact .inr (Nat.le_trans hIo.out.size e)); exact .inl e)
              rw [hev2.out] at hr7
              replace hr7 := Lib.hid hr7
              replace hK := Lib.hid hK
              clear O7 M7 hbz
              go_simp
              iterate 1 go_step
              refine wpList_updateM (w' := w7) rfl (.tmp 91) (.tmp 92) (.tmp 95) 119 rfl ?_ ?_
              · go_simp
                exact hr7.out
              simp only [Act.put]
              go_wp2_with fail
              rw [kw.out]
              go_roundw
              case rel => exact ⟨k + 1, _, by omega, rfl, hK.out⟩
              case measure => simp [RowKit.intOf]; omega
          · have hkN : k = N := by omega
            subst hkN
            have k1 : ¬ (k : Int) < (k : Int) := by omega
            have kd : decide ((k : Int) < (k : Int)) = false := decide_eq_false k1
            have hmem : root ∈ postO root := by
              obtain ⟨A, hA⟩ := postO_last hn.out
              rw [hA]; simp
            obtain ⟨j, hj, hje⟩ := List.mem_iff_getElem.1 hmem
            have hml := hI.ok j root (by rw [hN.out] at hj; exact hj) (by rw [List.getElem?_eq_getElem hj, hje])
            have hrb : root.b ∈ root.addrs := AT.b_mem hn.out
            have lk := lookT hI.om hrb
            rw [hml, Option.getD_some] at lk
            have hbw : Below w.heap.size w wr := by
              have h1 := kb.out w5 hb25.out
              exact h1.trans (hI.om.b.mono h1.size)
            obtain ⟨ev, hev⟩ : ∃ ev, evP (colV cs vs id) root = ev := ⟨_, rfl⟩
            obtain ⟨z, hz⟩ : ∃ z, (ev == 2) = z := ⟨_, rfl⟩
            have hfin := Lib.hid (hf.out z wr (by
              unfold evB
              rw [hn.out, hev, ← hz]
              cases h : (ev == 2) <;> simp_all) hbw)
            rw [hev] at lk
            clear hk hlt hml hrb hbw
            replace hI := Lib.hid hI
            replace hev := Lib.hid hev
            go_wp2_with fail
            first | exact hfin.out | (go_ret2; exact hfin.out) | (go_ret; exact hfin.out)
end Go.Proofs.YtgnoikfmhncbmaaGreatDoor
