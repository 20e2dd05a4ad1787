/- Walks: checkNode. Walks: Check of a condition. -/
import Derived.Test.YtgnoikfmhncbmaaGreatDoorB18
import Derived.Test.YtgnoikfmhncbmaaGreatDoorS2
import Derived.BigQuiet
set_option linter.unusedVariables false
set_option linter.unusedSimpArgs false
namespace Go.Proofs.YtgnoikfmhncbmaaGreatDoor
open Go.RowKit Go.BigFrame
/-- What Find gives, reckoned. -/
def findI : List CV → ByteArray → Nat → Int
  | [], _, _ => -1
  | c :: l, s, i => if (c.nm.toList == s.toList) = true then (i : Int) else findI l s (i + 1)
theorem findI_spec : ∀ (l : List CV) (s : ByteArray) (i : Nat), (findI l s i = -1 ∧ ∀ j, j < l.length → ((l.getD j CV0).nm.toList == s.toList) = false) ∨
    ∃ k : Nat, k < l.length ∧ findI l s i = ((i + k : Nat) : Int) ∧ ((l.getD k CV0).nm.toList == s.toList) = true ∧ ∀ j, j < k → ((l.getD j CV0).nm.toList == s.toList) = false
  | [], s, i => .inl ⟨rfl, fun j hj => by simp at hj⟩
  | c :: l, s, i => by
    unfold findI
    by_cases h : (c.nm.toList == s.toList) = true
    · exact .inr ⟨0, by simp, by rw [if_pos h]; simp, h, fun j hj => by omega⟩
    · rw [if_neg h]
      have hf : (c.nm.toList == s.toList) = false := by simpa using h
      rcases findI_spec l s (i + 1) with ⟨h1, h2⟩ | ⟨k, h1, h2, h3, h4⟩
      · refine .inl ⟨h1, fun j hj => ?_⟩
        cases j with
        | zero => exact hf
        | succ j => exact h2 j (by simpa using hj)
      · refine .inr ⟨k + 1, by simpa using h1, by rw [h2]; congr 1; omega, h3, fun j hj => ?_⟩
        cases j with
        | zero => exact hf
        | succ j => exact h4 j (by omega)
theorem findI_is (cs : List CV) (s : ByteArray) : FindIs cs s (findI cs s 0) := by
  rcases findI_spec cs s 0 with h | ⟨k, h1, h2, h3, h4⟩
  · exact .inl h
  · exact .inr ⟨k, h1, by rw [h2, Nat.zero_add], h3, h4⟩
def idS : ByteArray := ⟨#[105, 100]⟩
theorem idS_l : idS.toList = [105, 100] := by simp [idS, ByteArray.toList, ByteArray.toList.loop, ByteArray.size, ByteArray.get!]
/-- The type of a column by its name, 0 if there is none. -/
def kindP (cs : List CV) (cc : ByteArray) : Option Nat :=
  if (cc.toList == idS.toList) = true then some 1 else if findI cs cc 0 < 0 then none else some (cs.getD (findI cs cc 0).toNat CV0).ty
/-- The error of a part itself. -/
def nodeP (cs : List CV) : AT → Nat
  | .nil => 0
  | .node _ op cc v l r =>
    if op = 1 ∨ op = 2 then (if l.nil? = true ∨ r.nil? = true then 1 else 0)
    else if op = 3 then (if l.nil? = true then 1 else 0)
    else if 4 ≤ op ∧ op ≤ 10 then (match kindP cs cc with
      | none => 15
      | some k => if op ≠ 10 ∧ (v.nl = true ∨ v.ty ≠ k) then 16 else 0)
    else 1
/-- A table, as a value. -/
abbrev tabI (tn : ByteArray) (ver : Int) (ca : Option Addr) (n cc : Nat) (ia : Option Addr) (il ic : Nat) : Value := .agg #[.string tn, .int .i64 ver, .slice ca n cc, .slice ia il ic, .int .u64 0, .int .u64 0]
set_option maxHeartbeats 4000000 in
set_option maxRecDepth 100000 in
theorem node_any (b op : Nat) (cc : ByteArray) (v : RV) (l r : AT) (tn : ByteArray) (ver : Int) (cs : List CV) (ca : Option Addr) (cp : Nat) (ia : Option Addr) (il ic : Nat) (w : World) (h : Has w b (exCells op l.ptr r.ptr cc v) 46) (hr : Rd w (.slice ca cs.length cp) cs.length (cCells cs)) (hll : cs.length ≤ 100000) :
    Calls Tryz.prog 40 #[.pointer (some ⟨b, 0, none⟩), tabI tn ver ca cs.length cp ia il ic] w (RPost w (.int .i64 ((nodeP cs (.node b op cc v l r) : Nat) : Int))) := by
  generalize hpost : RPost w (.int .i64 ((nodeP cs (.node b op cc v l r) : Nat) : Int)) = post
  have hf : ∀ (k : Nat) w', nodeP cs (.node b op cc v l r) = k → Below w.heap.size w w' → post (.returned (.int .i64 (k : Int))) w' := fun k w' h1 h2 => by rw [← hpost, h1]; exact ⟨rfl, h2⟩
  clear hpost
  replace hf := Lib.hid hf
  have hl : (l.nil? = true ∧ l.ptr = .pointer none) ∨ (l.nil? = false ∧ ∃ b, l.ptr = .pointer (some ⟨b, 0, none⟩)) := by
    cases hn : l.nil?
    · exact .inr ⟨rfl, _, AT.ptr_b hn⟩
    · exact .inl ⟨rfl, by cases l with | nil => rfl | node => cases hn⟩
  have hrr : (r.nil? = true ∧ r.ptr = .pointer none) ∨ (r.nil? = false ∧ ∃ b, r.ptr = .pointer (some ⟨b, 0, none⟩)) := by
    cases hn : r.nil?
    · exact .inr ⟨rfl, _, AT.ptr_b hn⟩
    · exact .inl ⟨rfl, by cases r with | nil => rfl | node => cases hn⟩
  obtain ⟨n, hn⟩ : ∃ n, cs.length = n := ⟨_, rfl⟩
  obtain ⟨W1, hW1⟩ : ∃ W1, W1 = w.alloc (.cells #[.string tn, .int .i64 ver, .slice ca n cp, .slice ia il ic, .int .u64 0, .int .u64 0] 59) := ⟨_, rfl⟩
  have hb1 : Below w.heap.size w W1 := by rw [hW1]; exact (Below.refl _ _).alloc (Nat.le_refl _) _
  have hT : Has W1 w.heap.size [.string tn, .int .i64 ver, .slice ca n cp, .slice ia il ic, .int .u64 0, .int .u64 0] 59 := by rw [hW1]; exact Has.new w _ _
  have hz1 : W1.heap.size = w.heap.size + 1 := by rw [hW1]; simp
  have hE := h.only (Only.of_below hb1) (Nat.not_le.2 h.lt)
  have hr1 := hr.kept hb1
  rw [hn]
  clear h hr
  replace hW1 := Lib.hid hW1.symm
  have c0 := hE.cell (o := 0) rfl
  by_cases h1 : op = 1
  · have d1 : ((op : Int) == 1) = true := by simp [h1]
    have c1 := hE.cell (o := 1) rfl
    have c2 := hE.cell (o := 2) rfl
    rcases hl with ⟨hl1, hl2⟩ | ⟨hl1, bl, hl2⟩ <;> rcases hrr with ⟨hr1, hr2⟩ | ⟨hr1, br, hr2⟩
    all_goals
      rw [hl2] at c1
      rw [hr2] at c2
    · have hfin := Lib.hid (hf.out 1 W1 (by rw [nodeP, if_pos (by omega), hl1, hr1]; rfl) hb1)
      go_enter Tryz.func40, Tryz.ntmps40
      go_upto_region 1 with fail
      rw [hW1.out]
      clear hW1
      go_wp2_with fail
      exact hfin.out
    · have hfin := Lib.hid (hf.out 1 W1 (by rw [nodeP, if_pos (by omega), hl1, hr1]; rfl) hb1)
      go_enter Tryz.func40, Tryz.ntmps40
      go_upto_region 1 with fail
      rw [hW1.out]
      clear hW1
      go_wp2_with fail
      exact hfin.out
    · have hfin := Lib.hid (hf.out 1 W1 (by rw [nodeP, if_pos (by omega), hl1, hr1]; rfl) hb1)
      go_enter Tryz.func40, Tryz.ntmps40
      go_upto_region 1 with fail
      rw [hW1.out]
      clear hW1
      go_wp2_with fail
      exact hfin.out
    · have hfin := Lib.hid (hf.out 0 W1 (by rw [nodeP, if_pos (by omega), hl1, hr1]; rfl) hb1)
      go_enter Tryz.func40, Tryz.ntmps40
      go_upto_region 1 with fail
      rw [hW1.out]
      clear hW1
      go_wp2_with fail
      exact hfin.out
  have d1 : ((op : Int) == 1) = false := by simp; omega
  by_cases h2 : op = 2
  · have d2 : ((op : Int) == 2) = true := by simp [h2]
    have c1 := hE.cell (o := 1) rfl
    have c2 := hE.cell (o := 2) rfl
    rcases hl with ⟨hl1, hl2⟩ | ⟨hl1, bl, hl2⟩ <;> rcases hrr with ⟨hr1, hr2⟩ | ⟨hr1, br, hr2⟩
    all_goals
      rw [hl2] at c1
      rw [hr2] at c2
    · have hfin := Lib.hid (hf.out 1 W1 (by rw [nodeP, if_pos (by omega), hl1, hr1]; rfl) hb1)
      go_enter Tryz.func40, Tryz.ntmps40
      go_upto_region 1 with fail
      rw [hW1.out]
      clear hW1
      go_wp2_with fail
      exact hfin.out
    · have hfin := Lib.hid (hf.out 1 W1 (by rw [nodeP, if_pos (by omega), hl1, hr1]; rfl) hb1)
      go_enter Tryz.func40, Tryz.ntmps40
      go_upto_region 1 with fail
      rw [hW1.out]
      clear hW1
      go_wp2_with fail
      exact hfin.out
    · have hfin := Lib.hid (hf.out 1 W1 (by rw [nodeP, if_pos (by omega), hl1, hr1]; rfl) hb1)
      go_enter Tryz.func40, Tryz.ntmps40
      go_upto_region 1 with fail
      rw [hW1.out]
      clear hW1
      go_wp2_with fail
      exact hfin.out
    · have hfin := Lib.hid (hf.out 0 W1 (by rw [nodeP, if_pos (by omega), hl1, hr1]; rfl) hb1)
      go_enter Tryz.func40, Tryz.ntmps40
      go_upto_region 1 with fail
      rw [hW1.out]
      clear hW1
      go_wp2_with fail
      exact hfin.out
  have d2 : ((op : Int) == 2) = false := by simp; omega
  by_cases h3 : op = 3
  · have d3 : ((op : Int) == 3) = true := by simp [h3]
    have c1 := hE.cell (o := 1) rfl
    rcases hl with ⟨hl1, hl2⟩ | ⟨hl1, bl, hl2⟩
    all_goals rw [hl2] at c1
    · have hfin := Lib.hid (hf.out 1 W1 (by rw [nodeP, if_neg (by omega), if_pos (by omega), hl1]; rfl) hb1)
      go_enter Tryz.func40, Tryz.ntmps40
      go_upto_region 1 with fail
      rw [hW1.out]
      clear hW1
      go_wp2_with fail
      exact hfin.out
    · have hfin := Lib.hid (hf.out 0 W1 (by rw [nodeP, if_neg (by omega), if_pos (by omega), hl1]; rfl) hb1)
      go_enter Tryz.func40, Tryz.ntmps40
      go_upto_region 1 with fail
      rw [hW1.out]
      clear hW1
      go_wp2_with fail
      exact hfin.out
  have d3 : ((op : Int) == 3) = false := by simp; omega
  by_cases h0 : op < 4 ∨ 10 < op
  · have _h := hl
    have d4 : ((op : Int) == 4) = false := by simp; omega
    have d5 : ((op : Int) == 5) = false := by simp; omega
    have d6 : ((op : Int) == 6) = false := by simp; omega
    have d7 : ((op : Int) == 7) = false := by simp; omega
    have d8 : ((op : Int) == 8) = false := by simp; omega
    have d9 : ((op : Int) == 9) = false := by simp; omega
    have d10 : ((op : Int) == 10) = false := by simp; omega
    have hfin := Lib.hid (hf.out 1 W1 (by rw [nodeP, if_neg (by omega), if_neg (by omega), if_neg (by omega)]) hb1)
    go_enter Tryz.func40, Tryz.ntmps40
    go_upto_region 1 with fail
    rw [hW1.out]
    clear hW1
    go_wp2_with fail
    exact hfin.out
  have c1 := hE.cell (o := 1) rfl
  have c3 := hE.cell (o := 3) rfl
  have c4 := hE.cell (o := 4) rfl
  have c5 := hE.cell (o := 5) rfl
  have hnode : nodeP cs (.node b op cc v l r) = (match kindP cs cc with
    | none => 15
    | some k => if op ≠ 10 ∧ (v.nl = true ∨ v.ty ≠ k) then 16 else 0) := by rw [nodeP, if_neg (by omega), if_neg (by omega), if_pos (by omega)]
  rw [hnode] at hf
  clear hnode
  have hfd := findI_is cs cc
  obtain ⟨fi, hfi⟩ : ∃ fi, findI cs cc 0 = fi := ⟨_, rfl⟩
  obtain ⟨z, hz⟩ : ∃ z, (cc.toList == [105, 100]) = z := ⟨_, rfl⟩
  have hkp : kindP cs cc = if z = true then some 1 else if fi < 0 then none else some (cs.getD fi.toNat CV0).ty := by rw [kindP, hfi, idS_l, hz]
  rw [hfi] at hfd
  have hfr : fi = -1 ∨ ∃ k : Nat, k < n ∧ fi = (k : Int) := by
    rcases hfd with ⟨h, _⟩ | ⟨k, h1, h2, _⟩
    · exact .inl h
    · exact .inr ⟨k, by omega, h2⟩
  have hcall : ∀ wx, Below W1.heap.size W1 wx → Calls Tryz.prog 26 #[.agg #[.string tn, .int .i64 ver, .slice ca n cp, .slice ia il ic, .int .u64 0, .int .u64 0], .string cc] wx (fun e w'' => e = .returned (.int .i64 fi) ∧ Below W1.heap.size W1 w'') := fun wx hx => by
    have := find_ix tn ver cs ca cp ia il ic cc fi hfd wx (hr1.kept hx) hll
    rw [hn] at this
    exact this.mono fun e w'' ⟨h1, h2⟩ => ⟨h1, hx.trans (h2.mono hx.size)⟩
  have hTx : ∀ wx, Below W1.heap.size W1 wx → Has wx w.heap.size [.string tn, .int .i64 ver, .slice ca n cp, .slice ia il ic, .int .u64 0, .int .u64 0] 59 := fun wx hx => hT.only (Only.of_below hx) (Nat.not_le.2 hT.lt)
  have hEx : ∀ wx, Below W1.heap.size W1 wx → Has wx b (exCells op l.ptr r.ptr cc v) 46 := fun wx hx => hE.only (Only.of_below hx) (Nat.not_le.2 hE.lt)
  have hrx : ∀ wx, Below W1.heap.size W1 wx → Rd wx (.slice ca cs.length cp) cs.length (cCells cs) := fun wx hx => hr1.kept hx
  clear hfd hT hr1 hfi
  replace hcall := Lib.hid hcall
  replace hTx := Lib.hid hTx
  replace hEx := Lib.hid hEx
  replace hrx := Lib.hid hrx
  replace hkp := Lib.hid hkp
  replace hn := Lib.hid hn
  have hlt2 := hE.lt
  replace hz1 := Lib.hid hz1
  by_cases h4 : op = 4
  · have d4 : ((op : Int) == 4) = true := by simp [h4]
    go_enter Tryz.func40, Tryz.ntmps40
    go_upto_region 1 with fail
    rw [hW1.out]
    clear hW1
    go_upto_if 45 with fail
    go_cut [5] (fun k wx => ∃ kt : Nat, kindP cs cc = some kt ∧ k = .int .u8 (kt : Int) ∧ Below W1.heap.size W1 wx)
    case first =>
      cases z with
      | true =>
        have hk1 : kindP cs cc = some 1 := by rw [hkp.out]; rfl
        replace hk1 := Lib.hid hk1
        go_wp2_with fail
        go_meet
        exact ⟨1, hk1.out, rfl, Below.refl _ _⟩
      | false =>
        have hk1 := hkp.out
        rw [if_neg (by decide)] at hk1
        replace hk1 := Lib.hid hk1
        go_upto_region 21 with fail
        clear c0 c1 c3 c4 c5
        refine wp_region_quietC (C := fun wx => Below W1.heap.size W1 wx) (by kernel_rfl) (by kernel_rfl) (below_drew (Below.refl _ _)) ?_
        go_big_quiet_want; go_big_quiet_op
        refine ⟨.agg #[.string tn, .int .i64 ver, .slice ca n cp, .slice ia il ic, .int .u64 0, .int .u64 0], fun wx hx => by
          have h := hTx.out wx hx
          have q0 := h.cell (o := 0) rfl
          have q1 := h.cell (o := 1) rfl
          have q2 := h.cell (o := 2) rfl
          have q3 := h.cell (o := 3) rfl
          have q4 := h.cell (o := 4) rfl
          have q5 := h.cell (o := 5) rfl
          simp [go_sem, q0, q1, q2, q3, q4, q5], ?_⟩
        go_big_quiet_on
        iterate 3 (go_big_quiet_want; go_big_quiet_op; first | go_big_quiet_on | (refine ⟨_, fun _ _ => rfl, ?_⟩; go_big_quiet_on))
        go_big_quiet_want; go_big_quiet_op
        refine ⟨.string cc, fun wx hx => by
          have h := hEx.out wx hx
          have q3 := h.cell (o := 3) rfl
          simp [go_sem, q3], ?_⟩
        go_big_quiet_on
        go_big_quiet_want; go_big_quiet_op
        refine ⟨.int .i64 fi, fun wx hx => hcall.out wx hx, ?_⟩
        go_big_quiet_on
        iterate 1 (go_big_quiet_want; go_big_quiet_op; first | go_big_quiet_on | (refine ⟨_, fun _ _ => rfl, ?_⟩; go_big_quiet_on))
        refine wpQuiet_nil ?_
        intro wy hy
        rcases hfr with rfl | ⟨k, hkn, rfl⟩
        · have hk2 := hk1.out
          rw [if_pos (by decide)] at hk2
          have hfin := Lib.hid (hf.out 15 wy (by rw [hk2]) (hb1.trans (hy.mono hb1.size)))
          go_wp2_with fail
          first | exact hfin.out | (go_ret; exact hfin.out)
        · have hk2 := hk1.out
          rw [if_neg (by omega), Int.toNat_natCast] at hk2
          obtain ⟨bl, ol, cl, ea, fa⟩ := (hrx.out wy hy).col (k := k) (by rw [hn.out]; exact hkn)
          simp only [Value.slice.injEq, true_and] at ea
          obtain ⟨ea1, hcap⟩ := ea
          replace hcap := Lib.hid hcap
          have e1 := fa 1 _ rfl
          have t2 := (hTx.out wy hy).cell (o := 2) rfl
          rw [ea1] at t2
          have k0 : (0 : Int) ≤ (k : Int) := by omega
          have k1 : (k : Int) < (n : Int) := by omega
          have k2 : ¬ (k : Int) < 0 := by omega
          have k3 : decide ((k : Int) < 0) = false := decide_eq_false k2
          obtain ⟨kt, hkt⟩ : ∃ kt, (cs.getD k CV0).ty = kt := ⟨_, rfl⟩
          rw [hkt] at e1 hk2
          replace hkt := Lib.hid hkt
          replace hk2 := Lib.hid hk2
          replace ea1 := Lib.hid ea1
          replace hy := Lib.hid hy
          clear fa
          go_wp2_with fail
          go_meet
          exact ⟨kt, hk2.out, rfl, hy.out⟩
    case rest =>
      rename World => W2
      obtain ⟨kt, hkt, rfl, hB2⟩ := hcut
      rw [hkt] at hf
      clear hkt hkp hfr c0 c1 c3 c4 c5
      have hE2 := hEx.out W2 hB2
      have c0 := hE2.cell (o := 0) rfl
      have hbb := hb1.trans (hB2.mono hb1.size)
      have e10 : ((op : Int) != 10) = true := by simp; omega
      have c4 := hE2.cell (o := 4) rfl
      have c5 := hE2.cell (o := 5) rfl
      by_cases hnl : v.nl = true
      · rw [hnl] at c5
        have hfin := Lib.hid (hf.out 16 W2 (by show (if op ≠ 10 ∧ _ then 16 else 0) = 16; rw [if_pos ⟨by omega, .inl hnl⟩]) hbb)
        clear hE2 hbb hB2
        go_wp2_with fail
        exact hfin.out
      · have hnl2 : v.nl = false := by simpa using hnl
        rw [hnl2] at c5
        by_cases hty : v.ty = kt
        · have hfin := Lib.hid (hf.out 0 W2 (by show (if op ≠ 10 ∧ _ then 16 else 0) = 0; rw [if_neg (fun h => by rcases h.2 with h | h; exact hnl h; exact h hty)]) hbb)
          have e11 : ((v.ty : Int) != (kt : Int)) = false := by simp [hty]
          replace hty := Lib.hid hty
          clear hE2 hbb hB2
          go_wp2_with fail
          exact hfin.out
        · have hfin := Lib.hid (hf.out 16 W2 (by show (if op ≠ 10 ∧ _ then 16 else 0) = 16; rw [if_pos ⟨by omega, .inr hty⟩]) hbb)
          have e11 : ((v.ty : Int) != (kt : Int)) = true := by simp; omega
          replace hty := Lib.hid hty
          clear hE2 hbb hB2
          go_wp2_with fail
          exact hfin.out
  have d4 : ((op : Int) == 4) = false := by simp; omega
  by_cases h5 : op = 5
  · have d5 : ((op : Int) == 5) = true := by simp [h5]
    go_enter Tryz.func40, Tryz.ntmps40
    go_upto_region 1 with fail
    rw [hW1.out]
    clear hW1
    go_upto_if 45 with fail
    go_cut [5] (fun k wx => ∃ kt : Nat, kindP cs cc = some kt ∧ k = .int .u8 (kt : Int) ∧ Below W1.heap.size W1 wx)
    case first =>
      cases z with
      | true =>
        have hk1 : kindP cs cc = some 1 := by rw [hkp.out]; rfl
        replace hk1 := Lib.hid hk1
        go_wp2_with fail
        go_meet
        exact ⟨1, hk1.out, rfl, Below.refl _ _⟩
      | false =>
        have hk1 := hkp.out
        rw [if_neg (by decide)] at hk1
        replace hk1 := Lib.hid hk1
        go_upto_region 21 with fail
        clear c0 c1 c3 c4 c5
        refine wp_region_quietC (C := fun wx => Below W1.heap.size W1 wx) (by kernel_rfl) (by kernel_rfl) (below_drew (Below.refl _ _)) ?_
        go_big_quiet_want; go_big_quiet_op
        refine ⟨.agg #[.string tn, .int .i64 ver, .slice ca n cp, .slice ia il ic, .int .u64 0, .int .u64 0], fun wx hx => by
          have h := hTx.out wx hx
          have q0 := h.cell (o := 0) rfl
          have q1 := h.cell (o := 1) rfl
          have q2 := h.cell (o := 2) rfl
          have q3 := h.cell (o := 3) rfl
          have q4 := h.cell (o := 4) rfl
          have q5 := h.cell (o := 5) rfl
          simp [go_sem, q0, q1, q2, q3, q4, q5], ?_⟩
        go_big_quiet_on
        iterate 3 (go_big_quiet_want; go_big_quiet_op; first | go_big_quiet_on | (refine ⟨_, fun _ _ => rfl, ?_⟩; go_big_quiet_on))
        go_big_quiet_want; go_big_quiet_op
        refine ⟨.string cc, fun wx hx => by
          have h := hEx.out wx hx
          have q3 := h.cell (o := 3) rfl
          simp [go_sem, q3], ?_⟩
        go_big_quiet_on
        go_big_quiet_want; go_big_quiet_op
        refine ⟨.int .i64 fi, fun wx hx => hcall.out wx hx, ?_⟩
        go_big_quiet_on
        iterate 1 (go_big_quiet_want; go_big_quiet_op; first | go_big_quiet_on | (refine ⟨_, fun _ _ => rfl, ?_⟩; go_big_quiet_on))
        refine wpQuiet_nil ?_
        intro wy hy
        rcases hfr with rfl | ⟨k, hkn, rfl⟩
        · have hk2 := hk1.out
          rw [if_pos (by decide)] at hk2
          have hfin := Lib.hid (hf.out 15 wy (by rw [hk2]) (hb1.trans (hy.mono hb1.size)))
          go_wp2_with fail
          first | exact hfin.out | (go_ret; exact hfin.out)
        · have hk2 := hk1.out
          rw [if_neg (by omega), Int.toNat_natCast] at hk2
          obtain ⟨bl, ol, cl, ea, fa⟩ := (hrx.out wy hy).col (k := k) (by rw [hn.out]; exact hkn)
          simp only [Value.slice.injEq, true_and] at ea
          obtain ⟨ea1, hcap⟩ := ea
          replace hcap := Lib.hid hcap
          have e1 := fa 1 _ rfl
          have t2 := (hTx.out wy hy).cell (o := 2) rfl
          rw [ea1] at t2
          have k0 : (0 : Int) ≤ (k : Int) := by omega
          have k1 : (k : Int) < (n : Int) := by omega
          have k2 : ¬ (k : Int) < 0 := by omega
          have k3 : decide ((k : Int) < 0) = false := decide_eq_false k2
          obtain ⟨kt, hkt⟩ : ∃ kt, (cs.getD k CV0).ty = kt := ⟨_, rfl⟩
          rw [hkt] at e1 hk2
          replace hkt := Lib.hid hkt
          replace hk2 := Lib.hid hk2
          replace ea1 := Lib.hid ea1
          replace hy := Lib.hid hy
          clear fa
          go_wp2_with fail
          go_meet
          exact ⟨kt, hk2.out, rfl, hy.out⟩
    case rest =>
      rename World => W2
      obtain ⟨kt, hkt, rfl, hB2⟩ := hcut
      rw [hkt] at hf
      clear hkt hkp hfr c0 c1 c3 c4 c5
      have hE2 := hEx.out W2 hB2
      have c0 := hE2.cell (o := 0) rfl
      have hbb := hb1.trans (hB2.mono hb1.size)
      have e10 : ((op : Int) != 10) = true := by simp; omega
      have c4 := hE2.cell (o := 4) rfl
      have c5 := hE2.cell (o := 5) rfl
      by_cases hnl : v.nl = true
      · rw [hnl] at c5
        have hfin := Lib.hid (hf.out 16 W2 (by show (if op ≠ 10 ∧ _ then 16 else 0) = 16; rw [if_pos ⟨by omega, .inl hnl⟩]) hbb)
        clear hE2 hbb hB2
        go_wp2_with fail
        exact hfin.out
      · have hnl2 : v.nl = false := by simpa using hnl
        rw [hnl2] at c5
        by_cases hty : v.ty = kt
        · have hfin := Lib.hid (hf.out 0 W2 (by show (if op ≠ 10 ∧ _ then 16 else 0) = 0; rw [if_neg (fun h => by rcases h.2 with h | h; exact hnl h; exact h hty)]) hbb)
          have e11 : ((v.ty : Int) != (kt : Int)) = false := by simp [hty]
          replace hty := Lib.hid hty
          clear hE2 hbb hB2
          go_wp2_with fail
          exact hfin.out
        · have hfin := Lib.hid (hf.out 16 W2 (by show (if op ≠ 10 ∧ _ then 16 else 0) = 16; rw [if_pos ⟨by omega, .inr hty⟩]) hbb)
          have e11 : ((v.ty : Int) != (kt : Int)) = true := by simp; omega
          replace hty := Lib.hid hty
          clear hE2 hbb hB2
          go_wp2_with fail
          exact hfin.out
  have d5 : ((op : Int) == 5) = false := by simp; omega
  by_cases h6 : op = 6
  · have d6 : ((op : Int) == 6) = true := by simp [h6]
    go_enter Tryz.func40, Tryz.ntmps40
    go_upto_region 1 with fail
    rw [hW1.out]
    clear hW1
    go_upto_if 45 with fail
    go_cut [5] (fun k wx => ∃ kt : Nat, kindP cs cc = some kt ∧ k = .int .u8 (kt : Int) ∧ Below W1.heap.size W1 wx)
    case first =>
      cases z with
      | true =>
        have hk1 : kindP cs cc = some 1 := by rw [hkp.out]; rfl
        replace hk1 := Lib.hid hk1
        go_wp2_with fail
        go_meet
        exact ⟨1, hk1.out, rfl, Below.refl _ _⟩
      | false =>
        have hk1 := hkp.out
        rw [if_neg (by decide)] at hk1
        replace hk1 := Lib.hid hk1
        go_upto_region 21 with fail
        clear c0 c1 c3 c4 c5
        refine wp_region_quietC (C := fun wx => Below W1.heap.size W1 wx) (by kernel_rfl) (by kernel_rfl) (below_drew (Below.refl _ _)) ?_
        go_big_quiet_want; go_big_quiet_op
        refine ⟨.agg #[.string tn, .int .i64 ver, .slice ca n cp, .slice ia il ic, .int .u64 0, .int .u64 0], fun wx hx => by
          have h := hTx.out wx hx
          have q0 := h.cell (o := 0) rfl
          have q1 := h.cell (o := 1) rfl
          have q2 := h.cell (o := 2) rfl
          have q3 := h.cell (o := 3) rfl
          have q4 := h.cell (o := 4) rfl
          have q5 := h.cell (o := 5) rfl
          simp [go_sem, q0, q1, q2, q3, q4, q5], ?_⟩
        go_big_quiet_on
        iterate 3 (go_big_quiet_want; go_big_quiet_op; first | go_big_quiet_on | (refine ⟨_, fun _ _ => rfl, ?_⟩; go_big_quiet_on))
        go_big_quiet_want; go_big_quiet_op
        refine ⟨.string cc, fun wx hx => by
          have h := hEx.out wx hx
          have q3 := h.cell (o := 3) rfl
          simp [go_sem, q3], ?_⟩
        go_big_quiet_on
        go_big_quiet_want; go_big_quiet_op
        refine ⟨.int .i64 fi, fun wx hx => hcall.out wx hx, ?_⟩
        go_big_quiet_on
        iterate 1 (go_big_quiet_want; go_big_quiet_op; first | go_big_quiet_on | (refine ⟨_, fun _ _ => rfl, ?_⟩; go_big_quiet_on))
        refine wpQuiet_nil ?_
        intro wy hy
        rcases hfr with rfl | ⟨k, hkn, rfl⟩
        · have hk2 := hk1.out
          rw [if_pos (by decide)] at hk2
          have hfin := Lib.hid (hf.out 15 wy (by rw [hk2]) (hb1.trans (hy.mono hb1.size)))
          go_wp2_with fail
          first | exact hfin.out | (go_ret; exact hfin.out)
        · have hk2 := hk1.out
          rw [if_neg (by omega), Int.toNat_natCast] at hk2
          obtain ⟨bl, ol, cl, ea, fa⟩ := (hrx.out wy hy).col (k := k) (by rw [hn.out]; exact hkn)
          simp only [Value.slice.injEq, true_and] at ea
          obtain ⟨ea1, hcap⟩ := ea
          replace hcap := Lib.hid hcap
          have e1 := fa 1 _ rfl
          have t2 := (hTx.out wy hy).cell (o := 2) rfl
          rw [ea1] at t2
          have k0 : (0 : Int) ≤ (k : Int) := by omega
          have k1 : (k : Int) < (n : Int) := by omega
          have k2 : ¬ (k : Int) < 0 := by omega
          have k3 : decide ((k : Int) < 0) = false := decide_eq_false k2
          obtain ⟨kt, hkt⟩ : ∃ kt, (cs.getD k CV0).ty = kt := ⟨_, rfl⟩
          rw [hkt] at e1 hk2
          replace hkt := Lib.hid hkt
          replace hk2 := Lib.hid hk2
          replace ea1 := Lib.hid ea1
          replace hy := Lib.hid hy
          clear fa
          go_wp2_with fail
          go_meet
          exact ⟨kt, hk2.out, rfl, hy.out⟩
    case rest =>
      rename World => W2
      obtain ⟨kt, hkt, rfl, hB2⟩ := hcut
      rw [hkt] at hf
      clear hkt hkp hfr c0 c1 c3 c4 c5
      have hE2 := hEx.out W2 hB2
      have c0 := hE2.cell (o := 0) rfl
      have hbb := hb1.trans (hB2.mono hb1.size)
      have e10 : ((op : Int) != 10) = true := by simp; omega
      have c4 := hE2.cell (o := 4) rfl
      have c5 := hE2.cell (o := 5) rfl
      by_cases hnl : v.nl = true
      · rw [hnl] at c5
        have hfin := Lib.hid (hf.out 16 W2 (by show (if op ≠ 10 ∧ _ then 16 else 0) = 16; rw [if_pos ⟨by omega, .inl hnl⟩]) hbb)
        clear hE2 hbb hB2
        go_wp2_with fail
        exact hfin.out
      · have hnl2 : v.nl = false := by simpa using hnl
        rw [hnl2] at c5
        by_cases hty : v.ty = kt
        · have hfin := Lib.hid (hf.out 0 W2 (by show (if op ≠ 10 ∧ _ then 16 else 0) = 0; rw [if_neg (fun h => by rcases h.2 with h | h; exact hnl h; exact h hty)]) hbb)
          have e11 : ((v.ty : Int) != (kt : Int)) = false := by simp [hty]
          replace hty := Lib.hid hty
          clear hE2 hbb hB2
          go_wp2_with fail
          exact hfin.out
        · have hfin := Lib.hid (hf.out 16 W2 (by show (if op ≠ 10 ∧ _ then 16 else 0) = 16; rw [if_pos ⟨by omega, .inr hty⟩]) hbb)
          have e11 : ((v.ty : Int) != (kt : Int)) = true := by simp; omega
          replace hty := Lib.hid hty
          clear hE2 hbb hB2
          go_wp2_with fail
          exact hfin.out
  have d6 : ((op : Int) == 6) = false := by simp; omega
  by_cases h7 : op = 7
  · have d7 : ((op : Int) == 7) = true := by simp [h7]
    go_enter Tryz.func40, Tryz.ntmps40
    go_upto_region 1 with fail
    rw [hW1.out]
    clear hW1
    go_upto_if 45 with fail
    go_cut [5] (fun k wx => ∃ kt : Nat, kindP cs cc = some kt ∧ k = .int .u8 (kt : Int) ∧ Below W1.heap.size W1 wx)
    case first =>
      cases z with
      | true =>
        have hk1 : kindP cs cc = some 1 := by rw [hkp.out]; rfl
        replace hk1 := Lib.hid hk1
        go_wp2_with fail
        go_meet
        exact ⟨1, hk1.out, rfl, Below.refl _ _⟩
      | false =>
        have hk1 := hkp.out
        rw [if_neg (by decide)] at hk1
        replace hk1 := Lib.hid hk1
        go_upto_region 21 with fail
        clear c0 c1 c3 c4 c5
        refine wp_region_quietC (C := fun wx => Below W1.heap.size W1 wx) (by kernel_rfl) (by kernel_rfl) (below_drew (Below.refl _ _)) ?_
        go_big_quiet_want; go_big_quiet_op
        refine ⟨.agg #[.string tn, .int .i64 ver, .slice ca n cp, .slice ia il ic, .int .u64 0, .int .u64 0], fun wx hx => by
          have h := hTx.out wx hx
          have q0 := h.cell (o := 0) rfl
          have q1 := h.cell (o := 1) rfl
          have q2 := h.cell (o := 2) rfl
          have q3 := h.cell (o := 3) rfl
          have q4 := h.cell (o := 4) rfl
          have q5 := h.cell (o := 5) rfl
          simp [go_sem, q0, q1, q2, q3, q4, q5], ?_⟩
        go_big_quiet_on
        iterate 3 (go_big_quiet_want; go_big_quiet_op; first | go_big_quiet_on | (refine ⟨_, fun _ _ => rfl, ?_⟩; go_big_quiet_on))
        go_big_quiet_want; go_big_quiet_op
        refine ⟨.string cc, fun wx hx => by
          have h := hEx.out wx hx
          have q3 := h.cell (o := 3) rfl
          simp [go_sem, q3], ?_⟩
        go_big_quiet_on
        go_big_quiet_want; go_big_quiet_op
        refine ⟨.int .i64 fi, fun wx hx => hcall.out wx hx, ?_⟩
        go_big_quiet_on
        iterate 1 (go_big_quiet_want; go_big_quiet_op; first | go_big_quiet_on | (refine ⟨_, fun _ _ => rfl, ?_⟩; go_big_quiet_on))
        refine wpQuiet_nil ?_
        intro wy hy
        rcases hfr with rfl | ⟨k, hkn, rfl⟩
        · have hk2 := hk1.out
          rw [if_pos (by decide)] at hk2
          have hfin := Lib.hid (hf.out 15 wy (by rw [hk2]) (hb1.trans (hy.mono hb1.size)))
          go_wp2_with fail
          first | exact hfin.out | (go_ret; exact hfin.out)
        · have hk2 := hk1.out
          rw [if_neg (by omega), Int.toNat_natCast] at hk2
          obtain ⟨bl, ol, cl, ea, fa⟩ := (hrx.out wy hy).col (k := k) (by rw [hn.out]; exact hkn)
          simp only [Value.slice.injEq, true_and] at ea
          obtain ⟨ea1, hcap⟩ := ea
          replace hcap := Lib.hid hcap
          have e1 := fa 1 _ rfl
          have t2 := (hTx.out wy hy).cell (o := 2) rfl
          rw [ea1] at t2
          have k0 : (0 : Int) ≤ (k : Int) := by omega
          have k1 : (k : Int) < (n : Int) := by omega
          have k2 : ¬ (k : Int) < 0 := by omega
          have k3 : decide ((k : Int) < 0) = false := decide_eq_false k2
          obtain ⟨kt, hkt⟩ : ∃ kt, (cs.getD k CV0).ty = kt := ⟨_, rfl⟩
          rw [hkt] at e1 hk2
          replace hkt := Lib.hid hkt
          replace hk2 := Lib.hid hk2
          replace ea1 := Lib.hid ea1
          replace hy := Lib.hid hy
          clear fa
          go_wp2_with fail
          go_meet
          exact ⟨kt, hk2.out, rfl, hy.out⟩
    case rest =>
      rename World => W2
      obtain ⟨kt, hkt, rfl, hB2⟩ := hcut
      rw [hkt] at hf
      clear hkt hkp hfr c0 c1 c3 c4 c5
      have hE2 := hEx.out W2 hB2
      have c0 := hE2.cell (o := 0) rfl
      have hbb := hb1.trans (hB2.mono hb1.size)
      have e10 : ((op : Int) != 10) = true := by simp; omega
      have c4 := hE2.cell (o := 4) rfl
      have c5 := hE2.cell (o := 5) rfl
      by_cases hnl : v.nl = true
      · rw [hnl] at c5
        have hfin := Lib.hid (hf.out 16 W2 (by show (if op ≠ 10 ∧ _ then 16 else 0) = 16; rw [if_pos ⟨by omega, .inl hnl⟩]) hbb)
        clear hE2 hbb hB2
        go_wp2_with fail
        exact hfin.out
      · have hnl2 : v.nl = false := by simpa using hnl
        rw [hnl2] at c5
        by_cases hty : v.ty = kt
        · have hfin := Lib.hid (hf.out 0 W2 (by show (if op ≠ 10 ∧ _ then 16 else 0) = 0; rw [if_neg (fun h => by rcases h.2 with h | h; exact hnl h; exact h hty)]) hbb)
          have e11 : ((v.ty : Int) != (kt : Int)) = false := by simp [hty]
          replace hty := Lib.hid hty
          clear hE2 hbb hB2
          go_wp2_with fail
          exact hfin.out
        · have hfin := Lib.hid (hf.out 16 W2 (by show (if op ≠ 10 ∧ _ then 16 else 0) = 16; rw [if_pos ⟨by omega, .inr hty⟩]) hbb)
          have e11 : ((v.ty : Int) != (kt : Int)) = true := by simp; omega
          replace hty := Lib.hid hty
          clear hE2 hbb hB2
          go_wp2_with fail
          exact hfin.out
  have d7 : ((op : Int) == 7) = false := by simp; omega
  by_cases h8 : op = 8
  · have d8 : ((op : Int) == 8) = true := by simp [h8]
    go_enter Tryz.func40, Tryz.ntmps40
    go_upto_region 1 with fail
    rw [hW1.out]
    clear hW1
    go_upto_if 45 with fail
    go_cut [5] (fun k wx => ∃ kt : Nat, kindP cs cc = some kt ∧ k = .int .u8 (kt : Int) ∧ Below W1.heap.size W1 wx)
    case first =>
      cases z with
      | true =>
        have hk1 : kindP cs cc = some 1 := by rw [hkp.out]; rfl
        replace hk1 := Lib.hid hk1
        go_wp2_with fail
        go_meet
        exact ⟨1, hk1.out, rfl, Below.refl _ _⟩
      | false =>
        have hk1 := hkp.out
        rw [if_neg (by decide)] at hk1
        replace hk1 := Lib.hid hk1
        go_upto_region 21 with fail
        clear c0 c1 c3 c4 c5
        refine wp_region_quietC (C := fun wx => Below W1.heap.size W1 wx) (by kernel_rfl) (by kernel_rfl) (below_drew (Below.refl _ _)) ?_
        go_big_quiet_want; go_big_quiet_op
        refine ⟨.agg #[.string tn, .int .i64 ver, .slice ca n cp, .slice ia il ic, .int .u64 0, .int .u64 0], fun wx hx => by
          have h := hTx.out wx hx
          have q0 := h.cell (o := 0) rfl
          have q1 := h.cell (o := 1) rfl
          have q2 := h.cell (o := 2) rfl
          have q3 := h.cell (o := 3) rfl
          have q4 := h.cell (o := 4) rfl
          have q5 := h.cell (o := 5) rfl
          simp [go_sem, q0, q1, q2, q3, q4, q5], ?_⟩
        go_big_quiet_on
        iterate 3 (go_big_quiet_want; go_big_quiet_op; first | go_big_quiet_on | (refine ⟨_, fun _ _ => rfl, ?_⟩; go_big_quiet_on))
        go_big_quiet_want; go_big_quiet_op
        refine ⟨.string cc, fun wx hx => by
          have h := hEx.out wx hx
          have q3 := h.cell (o := 3) rfl
          simp [go_sem, q3], ?_⟩
        go_big_quiet_on
        go_big_quiet_want; go_big_quiet_op
        refine ⟨.int .i64 fi, fun wx hx => hcall.out wx hx, ?_⟩
        go_big_quiet_on
        iterate 1 (go_big_quiet_want; go_big_quiet_op; first | go_big_quiet_on | (refine ⟨_, fun _ _ => rfl, ?_⟩; go_big_quiet_on))
        refine wpQuiet_nil ?_
        intro wy hy
        rcases hfr with rfl | ⟨k, hkn, rfl⟩
        · have hk2 := hk1.out
          rw [if_pos (by decide)] at hk2
          have hfin := Lib.hid (hf.out 15 wy (by rw [hk2]) (hb1.trans (hy.mono hb1.size)))
          go_wp2_with fail
          first | exact hfin.out | (go_ret; exact hfin.out)
        · have hk2 := hk1.out
          rw [if_neg (by omega), Int.toNat_natCast] at hk2
          obtain ⟨bl, ol, cl, ea, fa⟩ := (hrx.out wy hy).col (k := k) (by rw [hn.out]; exact hkn)
          simp only [Value.slice.injEq, true_and] at ea
          obtain ⟨ea1, hcap⟩ := ea
          replace hcap := Lib.hid hcap
          have e1 := fa 1 _ rfl
          have t2 := (hTx.out wy hy).cell (o := 2) rfl
          rw [ea1] at t2
          have k0 : (0 : Int) ≤ (k : Int) := by omega
          have k1 : (k : Int) < (n : Int) := by omega
          have k2 : ¬ (k : Int) < 0 := by omega
          have k3 : decide ((k : Int) < 0) = false := decide_eq_false k2
          obtain ⟨kt, hkt⟩ : ∃ kt, (cs.getD k CV0).ty = kt := ⟨_, rfl⟩
          rw [hkt] at e1 hk2
          replace hkt := Lib.hid hkt
          replace hk2 := Lib.hid hk2
          replace ea1 := Lib.hid ea1
          replace hy := Lib.hid hy
          clear fa
          go_wp2_with fail
          go_meet
          exact ⟨kt, hk2.out, rfl, hy.out⟩
    case rest =>
      rename World => W2
      obtain ⟨kt, hkt, rfl, hB2⟩ := hcut
      rw [hkt] at hf
      clear hkt hkp hfr c0 c1 c3 c4 c5
      have hE2 := hEx.out W2 hB2
      have c0 := hE2.cell (o := 0) rfl
      have hbb := hb1.trans (hB2.mono hb1.size)
      have e10 : ((op : Int) != 10) = true := by simp; omega
      have c4 := hE2.cell (o := 4) rfl
      have c5 := hE2.cell (o := 5) rfl
      by_cases hnl : v.nl = true
      · rw [hnl] at c5
        have hfin := Lib.hid (hf.out 16 W2 (by show (if op ≠ 10 ∧ _ then 16 else 0) = 16; rw [if_pos ⟨by omega, .inl hnl⟩]) hbb)
        clear hE2 hbb hB2
        go_wp2_with fail
        exact hfin.out
      · have hnl2 : v.nl = false := by simpa using hnl
        rw [hnl2] at c5
        by_cases hty : v.ty = kt
        · have hfin := Lib.hid (hf.out 0 W2 (by show (if op ≠ 10 ∧ _ then 16 else 0) = 0; rw [if_neg (fun h => by rcases h.2 with h | h; exact hnl h; exact h hty)]) hbb)
          have e11 : ((v.ty : Int) != (kt : Int)) = false := by simp [hty]
          replace hty := Lib.hid hty
          clear hE2 hbb hB2
          go_wp2_with fail
          exact hfin.out
        · have hfin := Lib.hid (hf.out 16 W2 (by show (if op ≠ 10 ∧ _ then 16 else 0) = 16; rw [if_pos ⟨by omega, .inr hty⟩]) hbb)
          have e11 : ((v.ty : Int) != (kt : Int)) = true := by simp; omega
          replace hty := Lib.hid hty
          clear hE2 hbb hB2
          go_wp2_with fail
          exact hfin.out
  have d8 : ((op : Int) == 8) = false := by simp; omega
  by_cases h9 : op = 9
  · have d9 : ((op : Int) == 9) = true := by simp [h9]
    go_enter Tryz.func40, Tryz.ntmps40
    go_upto_region 1 with fail
    rw [hW1.out]
    clear hW1
    go_upto_if 45 with fail
    go_cut [5] (fun k wx => ∃ kt : Nat, kindP cs cc = some kt ∧ k = .int .u8 (kt : Int) ∧ Below W1.heap.size W1 wx)
    case first =>
      cases z with
      | true =>
        have hk1 : kindP cs cc = some 1 := by rw [hkp.out]; rfl
        replace hk1 := Lib.hid hk1
        go_wp2_with fail
        go_meet
        exact ⟨1, hk1.out, rfl, Below.refl _ _⟩
      | false =>
        have hk1 := hkp.out
        rw [if_neg (by decide)] at hk1
        replace hk1 := Lib.hid hk1
        go_upto_region 21 with fail
        clear c0 c1 c3 c4 c5
        refine wp_region_quietC (C := fun wx => Below W1.heap.size W1 wx) (by kernel_rfl) (by kernel_rfl) (below_drew (Below.refl _ _)) ?_
        go_big_quiet_want; go_big_quiet_op
        refine ⟨.agg #[.string tn, .int .i64 ver, .slice ca n cp, .slice ia il ic, .int .u64 0, .int .u64 0], fun wx hx => by
          have h := hTx.out wx hx
          have q0 := h.cell (o := 0) rfl
          have q1 := h.cell (o := 1) rfl
          have q2 := h.cell (o := 2) rfl
          have q3 := h.cell (o := 3) rfl
          have q4 := h.cell (o := 4) rfl
          have q5 := h.cell (o := 5) rfl
          simp [go_sem, q0, q1, q2, q3, q4, q5], ?_⟩
        go_big_quiet_on
        iterate 3 (go_big_quiet_want; go_big_quiet_op; first | go_big_quiet_on | (refine ⟨_, fun _ _ => rfl, ?_⟩; go_big_quiet_on))
        go_big_quiet_want; go_big_quiet_op
        refine ⟨.string cc, fun wx hx => by
          have h := hEx.out wx hx
          have q3 := h.cell (o := 3) rfl
          simp [go_sem, q3], ?_⟩
        go_big_quiet_on
        go_big_quiet_want; go_big_quiet_op
        refine ⟨.int .i64 fi, fun wx hx => hcall.out wx hx, ?_⟩
        go_big_quiet_on
        iterate 1 (go_big_quiet_want; go_big_quiet_op; first | go_big_quiet_on | (refine ⟨_, fun _ _ => rfl, ?_⟩; go_big_quiet_on))
        refine wpQuiet_nil ?_
        intro wy hy
        rcases hfr with rfl | ⟨k, hkn, rfl⟩
        · have hk2 := hk1.out
          rw [if_pos (by decide)] at hk2
          have hfin := Lib.hid (hf.out 15 wy (by rw [hk2]) (hb1.trans (hy.mono hb1.size)))
          go_wp2_with fail
          first | exact hfin.out | (go_ret; exact hfin.out)
        · have hk2 := hk1.out
          rw [if_neg (by omega), Int.toNat_natCast] at hk2
          obtain ⟨bl, ol, cl, ea, fa⟩ := (hrx.out wy hy).col (k := k) (by rw [hn.out]; exact hkn)
          simp only [Value.slice.injEq, true_and] at ea
          obtain ⟨ea1, hcap⟩ := ea
          replace hcap := Lib.hid hcap
          have e1 := fa 1 _ rfl
          have t2 := (hTx.out wy hy).cell (o := 2) rfl
          rw [ea1] at t2
          have k0 : (0 : Int) ≤ (k : Int) := by omega
          have k1 : (k : Int) < (n : Int) := by omega
          have k2 : ¬ (k : Int) < 0 := by omega
          have k3 : decide ((k : Int) < 0) = false := decide_eq_false k2
          obtain ⟨kt, hkt⟩ : ∃ kt, (cs.getD k CV0).ty = kt := ⟨_, rfl⟩
          rw [hkt] at e1 hk2
          replace hkt := Lib.hid hkt
          replace hk2 := Lib.hid hk2
          replace ea1 := Lib.hid ea1
          replace hy := Lib.hid hy
          clear fa
          go_wp2_with fail
          go_meet
          exact ⟨kt, hk2.out, rfl, hy.out⟩
    case rest =>
      rename World => W2
      obtain ⟨kt, hkt, rfl, hB2⟩ := hcut
      rw [hkt] at hf
      clear hkt hkp hfr c0 c1 c3 c4 c5
      have hE2 := hEx.out W2 hB2
      have c0 := hE2.cell (o := 0) rfl
      have hbb := hb1.trans (hB2.mono hb1.size)
      have e10 : ((op : Int) != 10) = true := by simp; omega
      have c4 := hE2.cell (o := 4) rfl
      have c5 := hE2.cell (o := 5) rfl
      by_cases hnl : v.nl = true
      · rw [hnl] at c5
        have hfin := Lib.hid (hf.out 16 W2 (by show (if op ≠ 10 ∧ _ then 16 else 0) = 16; rw [if_pos ⟨by omega, .inl hnl⟩]) hbb)
        clear hE2 hbb hB2
        go_wp2_with fail
        exact hfin.out
      · have hnl2 : v.nl = false := by simpa using hnl
        rw [hnl2] at c5
        by_cases hty : v.ty = kt
        · have hfin := Lib.hid (hf.out 0 W2 (by show (if op ≠ 10 ∧ _ then 16 else 0) = 0; rw [if_neg (fun h => by rcases h.2 with h | h; exact hnl h; exact h hty)]) hbb)
          have e11 : ((v.ty : Int) != (kt : Int)) = false := by simp [hty]
          replace hty := Lib.hid hty
          clear hE2 hbb hB2
          go_wp2_with fail
          exact hfin.out
        · have hfin := Lib.hid (hf.out 16 W2 (by show (if op ≠ 10 ∧ _ then 16 else 0) = 16; rw [if_pos ⟨by omega, .inr hty⟩]) hbb)
          have e11 : ((v.ty : Int) != (kt : Int)) = true := by simp; omega
          replace hty := Lib.hid hty
          clear hE2 hbb hB2
          go_wp2_with fail
          exact hfin.out
  have d9 : ((op : Int) == 9) = false := by simp; omega
  have h10 : op = 10 := by omega
  have d10 : ((op : Int) == 10) = true := by simp [h10]
  go_enter Tryz.func40, Tryz.ntmps40
  go_upto_region 1 with fail
  rw [hW1.out]
  clear hW1
  go_upto_if 45 with fail
  go_cut [5] (fun k wx => ∃ kt : Nat, kindP cs cc = some kt ∧ k = .int .u8 (kt : Int) ∧ Below W1.heap.size W1 wx)
  case first =>
    cases z with
    | true =>
      have hk1 : kindP cs cc = some 1 := by rw [hkp.out]; rfl
      replace hk1 := Lib.hid hk1
      go_wp2_with fail
      go_meet
      exact ⟨1, hk1.out, rfl, Below.refl _ _⟩
    | false =>
      have hk1 := hkp.out
      rw [if_neg (by decide)] at hk1
      replace hk1 := Lib.hid hk1
      go_upto_region 21 with fail
      clear c0 c1 c3 c4 c5
      refine wp_region_quietC (C := fun wx => Below W1.heap.size W1 wx) (by kernel_rfl) (by kernel_rfl) (below_drew (Below.refl _ _)) ?_
      go_big_quiet_want; go_big_quiet_op
      refine ⟨.agg #[.string tn, .int .i64 ver, .slice ca n cp, .slice ia il ic, .int .u64 0, .int .u64 0], fun wx hx => by
        have h := hTx.out wx hx
        have q0 := h.cell (o := 0) rfl
        have q1 := h.cell (o := 1) rfl
        have q2 := h.cell (o := 2) rfl
        have q3 := h.cell (o := 3) rfl
        have q4 := h.cell (o := 4) rfl
        have q5 := h.cell (o := 5) rfl
        simp [go_sem, q0, q1, q2, q3, q4, q5], ?_⟩
      go_big_quiet_on
      iterate 3 (go_big_quiet_want; go_big_quiet_op; first | go_big_quiet_on | (refine ⟨_, fun _ _ => rfl, ?_⟩; go_big_quiet_on))
      go_big_quiet_want; go_big_quiet_op
      refine ⟨.string cc, fun wx hx => by
        have h := hEx.out wx hx
        have q3 := h.cell (o := 3) rfl
        simp [go_sem, q3], ?_⟩
      go_big_quiet_on
      go_big_quiet_want; go_big_quiet_op
      refine ⟨.int .i64 fi, fun wx hx => hcall.out wx hx, ?_⟩
      go_big_quiet_on
      iterate 1 (go_big_quiet_want; go_big_quiet_op; first | go_big_quiet_on | (refine ⟨_, fun _ _ => rfl, ?_⟩; go_big_quiet_on))
      refine wpQuiet_nil ?_
      intro wy hy
      rcases hfr with rfl | ⟨k, hkn, rfl⟩
      · have hk2 := hk1.out
        rw [if_pos (by decide)] at hk2
        have hfin := Lib.hid (hf.out 15 wy (by rw [hk2]) (hb1.trans (hy.mono hb1.size)))
        go_wp2_with fail
        first | exact hfin.out | (go_ret; exact hfin.out)
      · have hk2 := hk1.out
        rw [if_neg (by omega), Int.toNat_natCast] at hk2
        obtain ⟨bl, ol, cl, ea, fa⟩ := (hrx.out wy hy).col (k := k) (by rw [hn.out]; exact hkn)
        simp only [Value.slice.injEq, true_and] at ea
        obtain ⟨ea1, hcap⟩ := ea
        replace hcap := Lib.hid hcap
        have e1 := fa 1 _ rfl
        have t2 := (hTx.out wy hy).cell (o := 2) rfl
        rw [ea1] at t2
        have k0 : (0 : Int) ≤ (k : Int) := by omega
        have k1 : (k : Int) < (n : Int) := by omega
        have k2 : ¬ (k : Int) < 0 := by omega
        have k3 : decide ((k : Int) < 0) = false := decide_eq_false k2
        obtain ⟨kt, hkt⟩ : ∃ kt, (cs.getD k CV0).ty = kt := ⟨_, rfl⟩
        rw [hkt] at e1 hk2
        replace hkt := Lib.hid hkt
        replace hk2 := Lib.hid hk2
        replace ea1 := Lib.hid ea1
        replace hy := Lib.hid hy
        clear fa
        go_wp2_with fail
        go_meet
        exact ⟨kt, hk2.out, rfl, hy.out⟩
  case rest =>
    rename World => W2
    obtain ⟨kt, hkt, rfl, hB2⟩ := hcut
    rw [hkt] at hf
    clear hkt hkp hfr c0 c1 c3 c4 c5
    have hE2 := hEx.out W2 hB2
    have c0 := hE2.cell (o := 0) rfl
    have hbb := hb1.trans (hB2.mono hb1.size)
    have hfin := Lib.hid (hf.out 0 W2 (by show (if op ≠ 10 ∧ _ then 16 else 0) = 0; rw [if_neg (by omega)]) hbb)
    have e10 : ((op : Int) != 10) = false := by simp [h10]
    clear hE2 hbb hB2
    go_wp2_with fail
    exact hfin.out
end Go.Proofs.YtgnoikfmhncbmaaGreatDoor

namespace Go.Proofs.YtgnoikfmhncbmaaGreatDoor
open Go.RowKit
/-- The parts of a condition, a part before its operands. -/
def preO : AT → List AT
  | .nil => []
  | .node b op cc v l r => .node b op cc v l r :: ((if (op = 1 ∨ op = 2 ∨ op = 3) ∧ l.nil? = false then preO l else []) ++ (if (op = 1 ∨ op = 2) ∧ r.nil? = false then preO r else []))
theorem preO_kids {t : AT} (h : t.nil? = false) : preO t = t :: (kidsQ t).flatMap preO := by
  cases t with
  | nil => cases h
  | node b op cc v l r =>
    rw [preO, kidsQ_node, List.flatMap_append]
    congr 2
    · split <;> simp
    · split <;> simp
/-- The first error. -/
def errL (cs : List CV) : List AT → Nat
  | [] => 0
  | t :: l => if nodeP cs t = 0 then errL cs l else nodeP cs t
theorem errL_app (cs : List CV) : ∀ (a b : List AT), (∀ t ∈ a, nodeP cs t = 0) → errL cs (a ++ b) = errL cs b
  | [], b, _ => rfl
  | t :: a, b, h => by
    rw [List.cons_append, errL, if_pos (h t (by simp))]
    exact errL_app cs a b (fun x hx => h x (by simp [hx]))
/-- The error of a condition. -/
def checkP (cs : List CV) (t : AT) : Nat := errL cs (preO t)
structure ChI (w : World) (root : AT) (bm : Nat) (its : List AT) (sa : Option Addr) (sc : Nat) (D : List AT) (cs : List CV) (m : Nat → Option Value) (wr : World) : Prop where
  om : OM w root bm m wr
  own : wr.ownsRow 0 24 1 (.slice sa its.length sc) its.length (its.reverse.map AT.ptr)
  ob : ∀ k, ownB (.slice sa its.length sc) k → w.heap.size ≤ k ∧ k ≠ bm
  sub : ∀ t ∈ its, t.Sub root ∧ t.nil? = false
  nd : (its.flatMap AT.addrs).Nodup
  un : ∀ a ∈ its.flatMap AT.addrs, m a = none
  po : D ++ its.flatMap preO = preO root
  z : ∀ t ∈ D, nodeP cs t = 0
variable {w wr w' : World} {root : AT} {bm : Nat} {m : Nat → Option Value} {cs : List CV}
theorem ChI.exp {t : AT} {s : List AT} {sa sa' : Option Addr} {sc sc' : Nat} {D : List AT} {w3 : World} (h : ChI w root bm (t :: s) sa sc D cs m wr) (M3 : OM w root bm (setM m t.b (.bool true)) w3) (h0 : nodeP cs t = 0)
    (own3 : w3.ownsRow 0 24 1 (.slice sa' (s.length + (kidsQ t).length) sc') (s.length + (kidsQ t).length) ((s.reverse.map AT.ptr) ++ (kidsQ t).reverse.map AT.ptr))
    (hob : ∀ k, ownB (.slice sa' (s.length + (kidsQ t).length) sc') k → w.heap.size ≤ k ∧ k ≠ bm) :
    ChI w root bm (kidsQ t ++ s) sa' sc' (D ++ [t]) cs (setM m t.b (.bool true)) w3 := by
  have hlen : (kidsQ t ++ s).length = s.length + (kidsQ t).length := by simp; omega
  obtain ⟨hs, htn⟩ := h.sub t (by simp)
  have hnd := h.nd
  rw [List.flatMap_cons, List.nodup_append] at hnd
  obtain ⟨n1, n2, n3⟩ := hnd
  have hk := kidsQ_ok.nd htn n1
  rw [List.nodup_append] at hk
  obtain ⟨k1, _, k3⟩ := hk
  have hka : ∀ a ∈ (kidsQ t).flatMap AT.addrs, a ∈ t.addrs := fun a ha => by
    obtain ⟨c, hc, ha⟩ := List.mem_flatMap.1 ha
    exact kidsQ_ok.mem hc a ha
  refine ⟨M3, ?_, ?_, fun c hc => ?_, ?_, fun a ha => ?_, ?_, fun c hc => ?_⟩
  · rw [hlen]
    have e : (kidsQ t ++ s).reverse.map AT.ptr = (s.reverse.map AT.ptr) ++ (kidsQ t).reverse.map AT.ptr := by simp
    rw [e]; exact own3
  · rw [hlen]; exact hob
  · rcases List.mem_append.1 hc with hc | hc
    · exact ⟨kidsQ_ok.sub hc hs, kidsQ_ok.some hc⟩
    · exact h.sub c (by simp [hc])
  · rw [List.flatMap_append, List.nodup_append]
    exact ⟨k1, n2, fun a ha b hb => n3 a (hka a ha) b hb⟩
  · rw [List.flatMap_append] at ha
    have hat : a ≠ t.b := by
      rcases List.mem_append.1 ha with ha | ha
      · exact fun e => k3 a ha t.b (List.mem_singleton.2 rfl) e
      · exact fun e => n3 t.b (AT.b_mem htn) a ha e.symm
    rw [setM_ne _ _ hat]
    refine h.un a ?_
    rw [List.flatMap_cons]
    rcases List.mem_append.1 ha with ha | ha
    · exact List.mem_append.2 (.inl (hka a ha))
    · exact List.mem_append.2 (.inr ha)
  · rw [← h.po, List.flatMap_append, List.flatMap_cons, preO_kids htn]
    simp
  · rcases List.mem_append.1 hc with hc | hc
    · exact h.z c hc
    · rw [List.mem_singleton.1 hc]; exact h0
theorem sum_len : ∀ {its : List AT}, (∀ t ∈ its, t.nil? = false) → its.length ≤ (its.map AT.size).sum
  | [], _ => Nat.le_refl _
  | t :: s, h => by
    have h1 := sum_len (its := s) (fun x hx => h x (by simp [hx]))
    have h2 := AT.size_pos (h t (by simp))
    simp only [List.map_cons, List.sum_cons, List.length_cons]; omega
set_option maxHeartbeats 4000000 in
set_option maxRecDepth 100000 in
theorem check_any (hA : root.At w) (hnd : root.addrs.Nodup) (hsz : root.size ≤ 20000000) (tn : ByteArray) (ver : Int) (cs : List CV) (ca : Option Addr) (cp : Nat) (ia : Option Addr) (il ic : Nat) (hr : Rd w (.slice ca cs.length cp) cs.length (cCells cs)) (hll : cs.length ≤ 100000) :
    Calls Tryz.prog 18 #[root.ptr, tabI tn ver ca cs.length cp ia il ic] w (RPost w (.int .i64 ((checkP cs root : Nat) : Int))) := by
  generalize hpost : RPost w (.int .i64 ((checkP cs root : Nat) : Int)) = post
  have hf : ∀ (k : Nat) w', checkP cs root = k → Below w.heap.size w w' → post (.returned (.int .i64 (k : Int))) w' := fun k w' h1 h2 => by rw [← hpost, h1]; exact ⟨rfl, h2⟩
  clear hpost
  replace hf := Lib.hid hf
  obtain ⟨n, hnn⟩ : ∃ n, cs.length = n := ⟨_, rfl⟩
  obtain ⟨W1, hW1⟩ : ∃ W1, W1 = w.alloc (.cells #[.string tn, .int .i64 ver, .slice ca n cp, .slice ia il ic, .int .u64 0, .int .u64 0] 59) := ⟨_, rfl⟩
  have hb1 : Below w.heap.size w W1 := by rw [hW1]; exact (Below.refl _ _).alloc (Nat.le_refl _) _
  have hT : Has W1 w.heap.size [.string tn, .int .i64 ver, .slice ca n cp, .slice ia il ic, .int .u64 0, .int .u64 0] 59 := by rw [hW1]; exact Has.new w _ _
  have hs1 : W1.heap.size = w.heap.size + 1 := by rw [hW1]; simp
  by_cases hn : root.nil? = true
  · have hr0 : root = .nil := by cases root with
      | nil => rfl
      | node => cases hn
    subst hr0
    have hfin := Lib.hid (hf.out 0 W1 rfl hb1)
    rw [hnn]
    unfold AT.ptr
    replace hW1 := Lib.hid hW1.symm
    go_enter Tryz.func18, Tryz.ntmps18
    go_upto_region 1 with fail
    rw [hW1.out]
    go_wp2_with fail
    first | exact hfin.out | (go_ret; exact hfin.out)
  have hn : root.nil? = false := by simpa using hn
  have hA1 := hA.below hb1
  have hr1 := hr.kept hb1
  have hlo : ∀ a ∈ root.addrs, a < W1.heap.size := hA1.lt
  have M1 : PM (W1.alloc (.map #[] 0)) (w.heap.size + 1) (fun _ => none) := by rw [← hs1]; exact PM.made W1
  obtain ⟨W2, hW2⟩ : ∃ W2, W2 = (W1.alloc (.map #[] 0)).alloc (.cells #[root.ptr] 24) := ⟨_, rfl⟩
  have hb2 : Below W1.heap.size W1 W2 := by rw [hW2]; exact ((Below.refl _ _).alloc (Nat.le_refl _) _).alloc (by simp) _
  have hb12 : Below (W1.alloc (.map #[] 0)).heap.size (W1.alloc (.map #[] 0)) W2 := by rw [hW2]; exact (Below.refl _ _).alloc (Nat.le_refl _) _
  have HS : Has W2 (w.heap.size + 1 + 1) [root.ptr] 24 := by
    have := Has.new (W1.alloc (.map #[] 0)) [root.ptr] 24; simp only [World.size_alloc, hs1] at this; rw [hW2]; exact this
  have hown : W2.ownsRow 0 24 1 (.slice (some ⟨w.heap.size + 1 + 1, 0, none⟩) 1 1) 1 [root.ptr] := ⟨rfl, .inr ⟨_, 1, _, rfl, Nat.zero_le _, HS, Nat.le_refl _, by decide, rfl, rfl⟩⟩
  have HI : ChI W1 root (w.heap.size + 1) [root] (some ⟨w.heap.size + 1 + 1, 0, none⟩) 1 [] cs (fun _ => none) W2 :=
    ⟨⟨hA1.below hb2, M1.below hb12, hb2, hlo, fun a h => (by cases h), by omega⟩, hown, fun k hk => by
      have : k = w.heap.size + 1 + 1 := (Option.some.inj hk).symm
      exact ⟨by omega, by omega⟩, fun t ht => by
      rw [List.mem_singleton.1 ht]; exact ⟨AT.Sub.refl _, hn⟩, by simpa using hnd, fun a _ => rfl, by simp, fun t ht => (by cases ht)⟩
  clear M1 hb12 HS hown hA hb2
  have hpost2 : ∀ wx, root.At wx → Calls Tryz.prog 42 #[ptrV root.b] wx (PostP root wx) := fun wx hx => by
    have := post_any hn hx hnd hsz
    rwa [AT.ptr_b hn] at this
  have hTx : ∀ wx, Below W1.heap.size W1 wx → Has wx w.heap.size [.string tn, .int .i64 ver, .slice ca n cp, .slice ia il ic, .int .u64 0, .int .u64 0] 59 := fun wx hx => hT.only (Only.of_below hx) (Nat.not_le.2 hT.lt)
  have hck : ∀ wx, Below W1.heap.size W1 wx → ∀ (b op : Nat) (cc : ByteArray) (v : RV) (l r : AT), Has wx b (exCells op l.ptr r.ptr cc v) 46 → Calls Tryz.prog 40 #[.pointer (some ⟨b, 0, none⟩), .agg #[.string tn, .int .i64 ver, .slice ca n cp, .slice ia il ic, .int .u64 0, .int .u64 0]] wx (RPost wx (.int .i64 ((nodeP cs (.node b op cc v l r) : Nat) : Int))) := fun wx hx b op cc v l r hE => by
    have := node_any b op cc v l r tn ver cs ca cp ia il ic wx hE (hr1.kept hx) hll
    rwa [hnn] at this
  rw [hnn]
  have hmm := @run_makeMap Tryz.prog
  have hpr := AT.ptr_b hn
  rw [hpr] at hW2 ⊢
  replace hpr := Lib.hid hpr
  have hW12 : ((w.alloc (.cells #[.string tn, .int .i64 ver, .slice ca n cp, .slice ia il ic, .int .u64 0, .int .u64 0] 59)).alloc (.map #[] 0)).alloc (.cells #[ptrV root.b] 24) = W2 := by rw [hW2, hW1]
  replace hW12 := Lib.hid hW12
  replace hW1 := Lib.hid hW1
  replace hW2 := Lib.hid hW2
  replace hs1 := Lib.hid hs1
  replace hlo := Lib.hid hlo
  replace hTx := Lib.hid hTx
  replace hck := Lib.hid hck
  replace hpost2 := Lib.hid hpost2
  replace hnn := Lib.hid hnn
  clear hT hr hr1 hA1
  go_enter Tryz.func18, Tryz.ntmps18
  go_wp2_with fail
  rw [hW12.out]
  clear hmm
  go_loopg [6] ((([root].map AT.size).sum) + 1) (fun g sv wr => ∃ (its : List AT) (sa : Option Addr) (sc : Nat) (D : List AT) (m : Nat → Option Value), sv = .slice sa its.length sc ∧ ChI W1 root (w.heap.size + 1) its sa sc D cs m wr ∧ (its.map AT.size).sum < g ∧ (its.map AT.size).sum ≤ 40000000)
  case atStart => exact ⟨_, _, _, [], _, rfl, HI, Nat.lt_succ_self _, by simp; omega⟩
  case round =>
    clear HI
    obtain ⟨its, sa, sc, D, m, rfl, hI, hg, hg4⟩ := hrel
    cases its with
    | nil =>
      have hD : D = preO root := by have := hI.po; simpa using this
      have h0 : checkP cs root = 0 := by
        have := errL_app cs D [] hI.z
        rw [List.append_nil, hD] at this; exact this
      have hpp := hpost2.out wr hI.om.at_
      have hbw := hb1.trans (hI.om.b.mono hb1.size)
      replace hpp := Lib.hid hpp
      replace h0 := Lib.hid h0
      replace hbw := Lib.hid hbw
      clear hI hD
      go_wp2_with fail
      refine hpp.out.mono ?_
      rintro e w1 ⟨la, lc, rfl, _, _, hbp⟩
      have hfin := Lib.hid (hf.out 0 w1 h0.out (hbw.out.trans (hbp.mono hbw.out.size)))
      clear hbp
      go_wp2_with fail
      first | exact hfin.out | (go_ret; exact hfin.out)
    | cons t s =>
      obtain ⟨hsub, hnt⟩ := hI.sub t (by simp)
      have hbm : t.b ∈ root.addrs := hsub.addrs t.b (AT.b_mem hnt)
      obtain ⟨g, rfl, hcap, hcell⟩ := own_some hI.own
      have hc0 : wr.cell? ⟨g, s.length, none⟩ = some (ptrV t.b) := hcell s.length _ (by
        rw [List.reverse_cons, List.map_append, List.getElem?_append_right (by simp)]
        simp [AT.ptr_b hnt])
      have hmv : m t.b = none := hI.un t.b (by rw [List.flatMap_cons]; exact List.mem_append.2 (.inl (AT.b_mem hnt)))
      have hl1 := lookB hI.om.mp (hI.om.at_.plain t.b hbm) false
      rw [hmv] at hl1
      simp only [Option.getD_none, Bool.false_eq_true, if_false] at hl1
      have q1 : decide ((0 : Int) < (s.length : Int) + 1) = true := decide_eq_true (by omega)
      have q2 : (0 : Int) ≤ (s.length : Int) := by omega
      have q3 : (s.length : Int) < (s.length : Int) + 1 := by omega
      have q4 : (s.length : Int) + 1 ≤ 40000000 := by
        have := sum_len (fun x hx => (hI.sub x hx).2); simp only [List.length_cons] at this; omega
      obtain ⟨w3, hr3, M3, O3⟩ := hI.om.putB hbm (.bool true)
      clear hcell
      cases t with
      | nil => cases hnt
      | node b op cc v l r =>
      have hAt : Has w3 b (exCells op l.ptr r.ptr cc v) 46 := (hsub.at M3.at_).1
      have hcn := hck.out w3 M3.b b op cc v l r hAt
      have hT3 := hTx.out w3 M3.b
      have t0 := hT3.cell (o := 0) rfl
      have t1 := hT3.cell (o := 1) rfl
      have t2 := hT3.cell (o := 2) rfl
      have t3 := hT3.cell (o := 3) rfl
      have t4 := hT3.cell (o := 4) rfl
      have t5 := hT3.cell (o := 5) rfl
      have hnd1 := hI.nd
      rw [List.flatMap_cons, List.nodup_append] at hnd1
      have hkn := kidsQ_ok.nd hnt hnd1.1
      have hkl : ∀ c ∈ kidsQ (.node b op cc v l r), c.ptr = ptrV c.b := fun c hc => AT.ptr_b (kidsQ_ok.some hc)
      have hkids := kidsQ_len (.node b op cc v l r)
      have hks := kidsQ_ok.size hnt
      have hwx : ((kidsQ (.node b op cc v l r) ++ s).map AT.size).sum + 1 < gk ∧ ((kidsQ (.node b op cc v l r) ++ s).map AT.size).sum ≤ 40000000 := by
        simp only [List.map_append, List.sum_append, List.map_cons, List.sum_cons] at hg hg4 ⊢
        omega
      have hexp := fun (sa' : Option Addr) (sc' : Nat) (w5 : World) => hI.exp (sa' := sa') (sc' := sc') (w3 := w5)
      have herr : nodeP cs (.node b op cc v l r) ≠ 0 → checkP cs root = nodeP cs (.node b op cc v l r) := fun h => by
        have := errL_app cs D ((AT.node b op cc v l r :: s).flatMap preO) hI.z
        rw [hI.po] at this
        rw [checkP, this, List.flatMap_cons, preO_kids hnt, List.cons_append, errL, if_neg h]
      have hown3 : w3.ownsRow 0 24 1 (.slice (some ⟨g, 0, none⟩) s.length sc) s.length (s.reverse.map AT.ptr) := by
        have := ownsRow_only hI.own O3 (fun k hk e => (hI.ob k hk).2 e)
        rw [List.reverse_cons, List.map_append] at this
        exact own_pop this
      obtain ⟨Ls, hLs⟩ : ∃ Ls, s.reverse.map AT.ptr = Ls := ⟨_, rfl⟩
      obtain ⟨kt, hkt⟩ : ∃ kt, kidsQ (.node b op cc v l r) = kt := ⟨_, rfl⟩
      rw [hkt] at hkl hkids hwx hexp
      rw [hLs] at hown3 hexp
      obtain ⟨er, her⟩ : ∃ er, nodeP cs (.node b op cc v l r) = er := ⟨_, rfl⟩
      rw [her] at hcn herr hexp
      have hob := hI.ob
      have hz3 := O3.size
      have hbb3 := hb1.trans (M3.b.mono hb1.size)
      replace hI := Lib.hid hI
      replace hkl := Lib.hid hkl
      replace hLs := Lib.hid hLs
      replace hkt := Lib.hid hkt
      replace hexp := Lib.hid hexp
      replace hob := Lib.hid hob
      replace hwx := Lib.hid hwx
      replace hr3 := Lib.hid hr3
      replace M3 := Lib.hid M3
      replace O3 := Lib.hid O3
      replace hks := Lib.hid hks
      replace hkn := Lib.hid hkn
      replace hmv := Lib.hid hmv
      replace herr := Lib.hid herr
      replace her := Lib.hid her
      replace hcn := Lib.hid hcn
      replace hbb3 := Lib.hid hbb3
      replace hAt := Lib.hid hAt
      clear hnd1
      go_upto_region 10 with (refine wpList_updateM rfl (.tmp 35) (.tmp 36) _ 112 rfl hr3.out ?_)
      clear hl1 hc0
      simp only [Act.put]
      go_wp2_with fail
      refine hcn.out.mono ?_
      rintro e w3a ⟨rfl, hba⟩
      by_cases h0 : er = 0
      · subst h0
        have e0 : (((0 : Nat) : Int) != 0) = false := rfl
        have M3a := M3.out.below hba
        have hown3a := ownsRow_only hown3 (Only.of_below hba) (fun k hk e => by have := ownsRow_lt hown3 hk; omega)
        have hop := opnds_any b op cc v l r w3a (hAt.out.only (Only.of_below hba) (Nat.not_le.2 hAt.out.lt))
        rw [hkt.out] at hop
        replace hop := Lib.hid hop
        replace M3a := Lib.hid M3a
        have hza := hba.size
        clear hba hown3 t0 t1 t2 t3 t4 t5 hT3
        go_wp2_with fail
        refine hop.out.mono ?_
        rintro e w4 ⟨ka, kc, rfl, ownK, hobK, hb4⟩
        have M4 := M3a.out.below hb4
        have own4 := ownsRow_only hown3a (Only.of_below hb4) (fun k hk e => by have := ownsRow_lt hown3a hk; omega)
        have hobS : ∀ k, ownB (.slice (some ⟨g, 0, none⟩) s.length sc) k → W1.heap.size ≤ k ∧ k ≠ w.heap.size + 1 ∧ ¬ ownB (.slice ka kt.length kc) k := fun k hk => by
          obtain ⟨g1, g2⟩ := hob.out k hk
          refine ⟨g1, g2, fun e => ?_⟩
          have := hobK k e
          have := ownsRow_lt hown3a hk
          omega
        clear hown3a
        obtain ⟨nk, hnk⟩ : ∃ nk, kt.length = nk := ⟨_, rfl⟩
        rw [hnk] at ownK hobK hobS hkids
        have hobS' : (∀ k, ownB (.slice (some ⟨g, 0, none⟩) (s.length + 0) sc) k → W1.heap.size ≤ k ∧ k ≠ w.heap.size + 1 ∧ ¬ ownB (.slice ka nk kc) k) := hobS
        have hstart : w4.ownsRow 0 24 1 (.slice (some ⟨g, 0, none⟩) (s.length + 0) sc) (s.length + 0) (Ls ++ (kt.reverse.map AT.ptr).take 0) := by
          simpa using own4
        replace hnk := Lib.hid hnk
        replace hobK := Lib.hid hobK
        replace hobS := Lib.hid hobS
        clear own4
        rw [hnk.out]
        go_wp2_with fail
        go_loopw [6, 10] (fun sv iv wq => ∃ (i j : Nat) (sa' : Option Addr) (sc' : Nat), i + j = nk ∧ iv = .int .i64 ((i : Int) - 1) ∧ sv = .slice sa' (s.length + j) sc' ∧ OM W1 root (w.heap.size + 1) (setM m b (.bool true)) wq ∧ wq.ownsRow 0 24 1 (.slice sa' (s.length + j) sc') (s.length + j) (Ls ++ (kt.reverse.map AT.ptr).take j) ∧
          (∀ k, ownB (.slice sa' (s.length + j) sc') k → W1.heap.size ≤ k ∧ k ≠ w.heap.size + 1 ∧ ¬ ownB (.slice ka nk kc) k) ∧ wq.ownsRow 0 24 1 (.slice ka nk kc) nk (kt.map AT.ptr)) (fun _ iv _ => (intOf iv + 1).toNat)
        case atStart => exact ⟨nk, 0, _, sc, rfl, rfl, rfl, M4, hstart, hobS', ownK⟩
        case round =>
          clear M4 hstart hobS' ownK hb4
          obtain ⟨i, j, sa', sc', hij, rfl, rfl, hM, hown, hob2, hownK⟩ := hrel
          cases i with
          | zero =>
            have hjk : j = nk := by omega
            subst hjk
            have hI5 := hexp.out sa' sc' wr hM (by first | trivial | rfl) (by rw [hnk.out]; rw [List.take_of_length_le (by rw [List.length_map, List.length_reverse, hnk.out]; exact Nat.le_refl _)] at hown; exact hown) (fun k hk => by
              rw [hnk.out] at hk
              obtain ⟨g1, g2, _⟩ := hob2 k hk
              exact ⟨g1, g2⟩)
            have hlen : (kt ++ s).length = s.length + j := by rw [List.length_append, hnk.out]; omega
            rw [show (((0 : Nat) : Int) - 1) = -1 from rfl]
            have hd : decide ((0 : Int) ≤ -1) = false := rfl
            replace hI5 := Lib.hid hI5
            replace hlen := Lib.hid hlen
            clear hM hown hob2 hownK
            go_wp2_with fail
            go_roundg ((((kt ++ s).map AT.size).sum) + 1)
            case measure => exact hwx.out.1
            case rel => exact ⟨_, sa', sc', _, _, by rw [hlen.out], hI5.out, Nat.lt_succ_self _, hwx.out.2⟩
          | succ i =>
            rw [show (((i + 1 : Nat) : Int) - 1) = (i : Int) by omega]
            obtain ⟨c, hc⟩ : ∃ c, kt[i]? = some c := ⟨_, List.getElem?_eq_getElem (by rw [hnk.out]; omega)⟩
            have k3 := hkl.out c (List.mem_of_getElem? hc)
            obtain ⟨gk2, rfl, hkc, hkcell⟩ := own_pos hownK (by omega)
            have cK : wr.cell? ⟨gk2, i, none⟩ = some (ptrV c.b) := hkcell i _ (by rw [List.getElem?_map, hc, ← k3]; rfl)
            have i0 : (0 : Int) ≤ (i : Int) := by omega
            have i2 : (i : Int) < (nk : Int) := by omega
            have hd : decide ((0 : Int) ≤ (i : Int)) = true := decide_eq_true i0
            have htake : (kt.reverse.map AT.ptr).take (j + 1) = (kt.reverse.map AT.ptr).take j ++ [ptrV c.b] := by
              rw [List.take_add_one]
              congr 1
              rw [List.getElem?_map, List.getElem?_reverse (by rw [hnk.out]; omega), hnk.out, show nk - 1 - j = i by omega, hc]
              simp [k3]
            have hby : (s.length + j + 1) * 8 ≤ 140737488355328 := by omega
            have hnx : ∀ sa2 sc2 w5, w5.ownsRow 0 24 1 (.slice sa2 (s.length + j + 1) sc2) (s.length + j + 1) ((Ls ++ (kt.reverse.map AT.ptr).take j) ++ [ptrV c.b]) → Only (fun k => Value.ownBlock (.slice sa' (s.length + j) sc') = some k) wr w5 →
                (∀ k, Value.ownBlock (.slice sa2 (s.length + j + 1) sc2) = some k → Value.ownBlock (.slice sa' (s.length + j) sc') = some k ∨ wr.heap.size ≤ k) →
                ∃ (i' j' : Nat) (sa' : Option Addr) (sc' : Nat), i' + j' = nk ∧ Value.int .i64 ((i : Int) - 1) = .int .i64 ((i' : Int) - 1) ∧ Value.slice sa2 (s.length + j + 1) sc2 = .slice sa' (s.length + j') sc' ∧ OM W1 root (w.heap.size + 1) (setM m b (.bool true)) w5 ∧ w5.ownsRow 0 24 1 (.slice sa' (s.length + j') sc') (s.length + j') (Ls ++ (kt.reverse.map AT.ptr).take j') ∧
                  (∀ k, ownB (.slice sa' (s.length + j') sc') k → W1.heap.size ≤ k ∧ k ≠ w.heap.size + 1 ∧ ¬ ownB (.slice (some ⟨gk2, 0, none⟩) nk kc) k) ∧ w5.ownsRow 0 24 1 (.slice (some ⟨gk2, 0, none⟩) nk kc) nk (kt.map AT.ptr) := fun sa2 sc2 w5 own2 only2 fresh2 => by
              refine ⟨i, j + 1, sa2, sc2, by omega, rfl, rfl, hM.only only2 (fun k hk hs => ?_), ?_, fun k hk => ?_, ownsRow_only hownK only2 (fun k hk e => (hob2 k e).2.2 hk)⟩
              · obtain ⟨g1, g2, _⟩ := hob2 k hs
                exact ⟨g1, g2⟩
              · rw [htake, ← List.append_assoc]; exact own2
              · rcases fresh2 k hk with h | h
                · exact hob2 k h
                · have h1 := hM.b.size
                  have h2 := hM.mp.lt
                  have hs1' := hs1.out
                  refine ⟨by omega, by omega, fun e => ?_⟩
                  have := ownsRow_lt hownK e; omega
            replace hnx := Lib.hid hnx
            replace htake := Lib.hid htake
            replace hc := Lib.hid hc
            clear hM hob2 hownK hkcell k3
            go_wp2_with (at_builtin; refine wpList_app1 rfl (.tmp 52) (.tmp 57) 113 rfl 24 (.pointer none) 8 Tryz.underlying113 infoPEx rfl (by decide) sa' (s.length + j) sc' (Ls ++ (kt.reverse.map AT.ptr).take j) rfl (ptrV c.b) _ wr rfl rfl hown _ rfl rfl rfl hby ?_)
            intro sa2 sc2 w5 own2 only2 fresh2
            have hfin := Lib.hid (hnx.out sa2 sc2 w5 (by have h := own2; first | exact h | (rw [← List.append_assoc, ← List.map_reverse] at h; exact h)) only2 fresh2)
            clear own2 only2 fresh2 hown cK
            go_wp2_with fail
            exact ⟨hfin.out, by simp [intOf]⟩
      · have e0 : (((er : Nat) : Int) != 0) = true := by simp; exact h0
        have hfin := Lib.hid (hf.out er w3a (herr.out h0) (hbb3.out.trans (hba.mono hbb3.out.size)))
        clear hba hown3 t0 t1 t2 t3 t4 t5 hT3
        replace h0 := Lib.hid h0
        go_wp2_with fail
        first | exact hfin.out | (go_ret; exact hfin.out)
end Go.Proofs.YtgnoikfmhncbmaaGreatDoor
