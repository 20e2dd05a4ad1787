/- Walks: Text, and the reference's Number and Text. Walks: the reference's Number and Text. Walks: the reference's Text. Walks: the reference's Number of any number that is not negative. Walks: boundText, and the reference's bound. The memory of Text, and what it answers: plain. -/
import Derived.Test.YtgnoikfmhncbmaaGreatDoorR17
import Derived.Lib.ItoaLen
import Derived.Test.YtgnoikfmhncbmaaGreatDoorR6
set_option linter.unusedVariables false
set_option linter.unusedSimpArgs false
set_option linter.unusedVariables false
namespace Go.Proofs.YtgnoikfmhncbmaaGreatDoor
open Go.RowKit Go.Lib

def ba (l : List UInt8) : ByteArray := ⟨l.toArray⟩
theorem ba_of (a : ByteArray) : ba a.data.toList = a := by cases a; simp [ba]
theorem ba_eq {a b : ByteArray} (h : a.data.toList = b.data.toList) : a = b := by rw [← ba_of a, ← ba_of b, h]
theorem ba_app (a b : List UInt8) : ba a ++ ba b = ba (a ++ b) := by
  apply ba_eq
  rw [ByteArray.data_append]
  simp [ba]
set_option maxHeartbeats 4000000 in
theorem text_any (ta : Nat) (na : Bool) (ia : Int) (xa : ByteArray) (bv : Bool) (hsa : xa.size ≤ 9223372036854775807) (w : World) (hE : Env w) :
    Calls Tryz.prog 60 #[.agg #[.int .u8 (ta : Int), .bool na, .int .i64 ia, .string xa, .bool bv]] w (RPost w (.string (ba (textP ⟨ta, na, ia, xa, bv⟩)))) := by
  obtain ⟨W, hW⟩ : ∃ W, W = w.alloc (.cells #[.int .u8 (ta : Int), .bool na, .int .i64 ia, .string xa, .bool bv] 28) := ⟨_, rfl⟩
  have hA : Has W w.heap.size [.int .u8 (ta : Int), .bool na, .int .i64 ia, .string xa, .bool bv] 28 := by rw [hW]; exact Has.new w _ 28
  have hBW : Below w.heap.size w W := by rw [hW]; exact (Below.refl _ _).alloc (Nat.le_refl _) _
  have hEW := hE.below hBW
  have hva := valid1_any ta na ia xa bv hsa W hEW
  have hfin : ∀ x, textP ⟨ta, na, ia, xa, bv⟩ = x → ∀ w', Below W.heap.size W w' → RPost w (.string (ba (textP ⟨ta, na, ia, xa, bv⟩))) (.returned (.string (ba x))) w' := by
    intro x h1 w' hb
    rw [h1]
    exact ⟨rfl, hBW.trans (hb.mono hBW.size)⟩
  have hX : textP ⟨ta, na, ia, xa, bv⟩ = if formP ⟨ta, na, ia, xa, bv⟩ ≠ 0 then [] else if na then nullL else if ta = 1 then itoa ia else if ta = 2 then 39 :: dbl xa.data.toList ++ [39] else if bv then trueL else falseL := rfl
  generalize textP ⟨ta, na, ia, xa, bv⟩ = tp at *
  generalize RPost w (.string (ba tp)) = post at *
  have kA := fun w' (hb : Below W.heap.size W w') => hA.only (Only.of_below hb) (Nat.not_le.2 hA.lt)
  have a0 := hA.cell (o := 0) rfl
  have a1 := hA.cell (o := 1) rfl
  have a2 := hA.cell (o := 2) rfl
  have a3 := hA.cell (o := 3) rfl
  have a4 := hA.cell (o := 4) rfl
  replace hW := Lib.hid hW
  replace hva := Lib.hid hva
  replace hfin := Lib.hid hfin
  replace kA := Lib.hid kA
  replace hBW := Lib.hid hBW
  replace hEW := Lib.hid hEW
  clear hA hE
  by_cases hf : formP ⟨ta, na, ia, xa, bv⟩ = 0
  · rw [decide_eq_true hf] at hva
    rw [if_neg (by simpa using hf)] at hX
    obtain ⟨⟨t1, t2⟩, n1, x1, c1, ⟨n2, n3⟩, _, sz⟩ := form_parts hf
    simp only at t1 t2 n1 x1 c1 n2 n3 sz
    replace hX := Lib.hid hX
    replace hf := Lib.hid hf
    replace n1 := Lib.hid n1
    replace x1 := Lib.hid x1
    replace c1 := Lib.hid c1
    go_enter Tryz.func60, Tryz.ntmps60
    go_upto_region 1 with fail
    rw [← hW.out]
    go_wp2_with fail
    refine hva.out.mono ?_
    rintro e w1 ⟨rfl, hb1⟩
    clear a0 a1 a2 a3 a4 hva
    have ka := kA.out w1 hb1
    have a0 := ka.cell (o := 0) rfl
    have a1 := ka.cell (o := 1) rfl
    have a2 := ka.cell (o := 2) rfl
    have a3 := ka.cell (o := 3) rfl
    have a4 := ka.cell (o := 4) rfl
    clear ka
    cases na with
    | true =>
      have hg := hfin.out nullL (by rw [hX.out]; rfl) w1 hb1
      replace hg := Lib.hid hg
      clear hb1
      go_wp2_with fail
      first | exact hg.out | (go_ret; exact hg.out)
    | false =>
      obtain rfl | rfl | rfl : ta = 1 ∨ ta = 2 ∨ ta = 3 := by omega
      · have hg := fun w2 hb2 => hfin.out (itoa ia) (by rw [hX.out]; rfl) w2 hb2
        have hc := itoa_any ia (by omega) (by omega) w1 (hEW.out.below hb1)
        replace hg := Lib.hid hg
        replace hc := Lib.hid hc
        replace hb1 := Lib.hid hb1
        go_wp2_with fail
        refine hc.out.mono ?_
        rintro e w2 ⟨rfl, hb12⟩
        have hg2 := hg.out w2 (hb1.out.trans (hb12.mono hb1.out.size))
        replace hg2 := Lib.hid hg2
        clear hb12
        go_wp2_with fail
        first | exact hg2.out | (go_ret; exact hg2.out)
      · have hg := fun w2 hb2 => hfin.out (39 :: dbl xa.data.toList ++ [39]) (by rw [hX.out]; rfl) w2 hb2
        have hcl : xa.data.toList.length = xa.size := by simp
        have hcnt := count_le xa.data.toList [39]
        have hr : Calls Tryz.prog 82 #[.string xa, .string ⟨#[39]⟩, .string ⟨#[39, 39]⟩] w1 fun e w'' => e = .returned (.string (ba (dbl xa.data.toList))) ∧ Below w1.heap.size w1 w'' := by
          have h := replall_any xa ⟨#[39]⟩ ⟨#[39, 39]⟩ w1 (hEW.out.below hb1) (by omega) (by decide) (by
            show xa.size + count xa.data.toList [39] * 2 ≤ _
            omega)
          have e : replaceAll xa.data.toList [39] [39, 39] = dbl xa.data.toList := by rw [replaceAll_dbl]
          rw [ba, ← e]
          exact h
        have hdl := dbl_len xa.data.toList
        generalize dbl xa.data.toList = dl at *
        have z1 : (ba dl).size ≤ 400 := by rw [ba, mk_size]; omega
        have z2 : ¬ (((⟨#[39]⟩ : ByteArray).size + (ba dl).size : Nat) : Int) > IntKind.i64.max := by
          show ¬ ((1 + (ba dl).size : Nat) : Int) > 9223372036854775807
          omega
        have z3 : ¬ ((((⟨#[39]⟩ : ByteArray) ++ ba dl).size + (⟨#[39]⟩ : ByteArray).size : Nat) : Int) > IntKind.i64.max := by
          rw [ByteArray.size_append]
          show ¬ ((1 + (ba dl).size + 1 : Nat) : Int) > 9223372036854775807
          omega
        replace hg := Lib.hid hg
        replace hr := Lib.hid hr
        replace hb1 := Lib.hid hb1
        clear hcl hcnt
        go_wp2_with fail
        refine hr.out.mono ?_
        rintro e w2 ⟨rfl, hb12⟩
        have hg2 := hg.out w2 (hb1.out.trans (hb12.mono hb1.out.size))
        have e1 : (⟨#[39]⟩ : ByteArray) ++ ba dl ++ ⟨#[39]⟩ = ba (39 :: dl ++ [39]) := by
          show ba [39] ++ ba dl ++ ba [39] = _
          rw [ba_app, ba_app]; rfl
        rw [← e1] at hg2
        replace hg2 := Lib.hid hg2
        clear hb12
        go_wp2_with fail
        exact hg2.out
      · cases bv
        all_goals
          have hg := hfin.out _ hX.out w1 hb1
          replace hg := Lib.hid hg
          clear hb1
          go_wp2_with fail
          first | exact hg.out | (go_ret; exact hg.out)
  · rw [decide_eq_false hf] at hva
    rw [if_pos (by simpa using hf)] at hX
    have hg := hfin.out [] hX
    replace hX := Lib.hid hX
    replace hf := Lib.hid hf
    replace hg := Lib.hid hg
    go_enter Tryz.func60, Tryz.ntmps60
    go_upto_region 1 with fail
    rw [← hW.out]
    go_wp2_with fail
    refine hva.out.mono ?_
    rintro e w1 ⟨rfl, hb1⟩
    have hg2 := hg.out w1 hb1
    replace hg2 := Lib.hid hg2
    clear hb1
    go_wp2_with fail
    first | exact hg2.out | (go_ret; exact hg2.out)
end Go.Proofs.YtgnoikfmhncbmaaGreatDoor

set_option linter.unusedVariables false
namespace Go.Proofs.YtgnoikfmhncbmaaGreatDoor
open Go.RowKit Go.Lib

def NumR (n m : Nat) (l : List UInt8) : Prop := (l = [] ∧ m = n) ∨ (l ≠ [] ∧ 0 < m ∧ decDigits n = decDigits m ++ l) ∨ (l ≠ [] ∧ m = 0 ∧ decDigits n = l)
theorem NumR.step {n m : Nat} {l : List UInt8} (h : NumR n m l) (hc : 0 < m ∨ l = []) : NumR n (m / 10) (UInt8.ofNat (48 + m % 10) :: l) := by
  have key : decDigits n = decDigits m ++ l := by
    rcases h with ⟨rfl, rfl⟩ | ⟨_, _, h⟩ | ⟨h1, h2, _⟩
    · simp
    · exact h
    · rcases hc with h | h
      · omega
      · exact absurd h h1
  rw [decDigits.eq_1 m] at key
  by_cases h10 : m < 10
  · rw [dif_pos h10] at key
    refine .inr (.inr ⟨by simp, by omega, ?_⟩)
    rw [key, Nat.mod_eq_of_lt h10]; rfl
  · rw [dif_neg h10] at key
    refine .inr (.inl ⟨by simp, by omega, ?_⟩)
    rw [key]; simp
theorem NumR.done {n m : Nat} {l : List UInt8} (h : NumR n m l) (h1 : ¬ 0 < m) (h2 : l ≠ []) : decDigits n = l := by
  rcases h with ⟨rfl, _⟩ | ⟨_, h, _⟩ | ⟨_, _, h⟩
  · exact absurd rfl h2
  · exact absurd h h1
  · exact h
theorem NumR.len {n m : Nat} {l : List UInt8} (h : NumR n m l) (hn : n ≤ 2147483648) : l.length ≤ 20 ∧ m ≤ 2147483648 := by
  have hd : (decDigits n).length ≤ 20 := by
    rw [decDigits_length]
    exact nDigits_le20 n (by omega)
  rcases h with ⟨rfl, rfl⟩ | ⟨_, h, hk⟩ | ⟨_, h, hk⟩
  · exact ⟨by simp, by omega⟩
  · rw [hk, List.length_append] at hd
    have hv : valFrom 0 (decDigits m ++ l) = n := by rw [← hk]; exact (dec_dig n).2.1
    have hge : ∀ (l : List UInt8) (a b : List UInt8), a = b → valFrom 0 a = valFrom 0 b := fun _ _ _ h => by rw [h]
    have happ : ∀ (a b : List UInt8) (x : Nat), valFrom x (a ++ b) = valFrom (valFrom x a) b := by
      intro a
      induction a with
      | nil => intro b x; rfl
      | cons c r ih => intro b x; exact ih b _
    rw [happ, (dec_dig m).2.1] at hv
    have := val_ge l m
    exact ⟨by omega, by omega⟩
  · rw [← hk]; exact ⟨hd, by omega⟩
end Go.Proofs.YtgnoikfmhncbmaaGreatDoor

set_option linter.unusedVariables false
namespace Go.Proofs.YtgnoikfmhncbmaaGreatDoor
open Go.RowKit Go.Lib

end Go.Proofs.YtgnoikfmhncbmaaGreatDoor

set_option linter.unusedVariables false
namespace Go.Proofs.YtgnoikfmhncbmaaGreatDoor
open Go.RowKit Go.Lib
end Go.Proofs.YtgnoikfmhncbmaaGreatDoor

namespace Go.Proofs.YtgnoikfmhncbmaaGreatDoor
open Go.RowKit Go.Lib
def boundP (v : RV) : List UInt8 := if v.nl then [45] else textP v
set_option maxHeartbeats 4000000 in
theorem boundtext_any (ta : Nat) (na : Bool) (ia : Int) (xa : ByteArray) (bv : Bool) (hsa : xa.size ≤ 9223372036854775807) (w : World) (hE : Env w) :
    Calls Tryz.prog 35 #[.agg #[.int .u8 (ta : Int), .bool na, .int .i64 ia, .string xa, .bool bv]] w (RPost w (.string (ba (boundP ⟨ta, na, ia, xa, bv⟩)))) := by
  obtain ⟨W, hW⟩ : ∃ W, W = w.alloc (.cells #[.int .u8 (ta : Int), .bool na, .int .i64 ia, .string xa, .bool bv] 28) := ⟨_, rfl⟩
  have hA : Has W w.heap.size [.int .u8 (ta : Int), .bool na, .int .i64 ia, .string xa, .bool bv] 28 := by rw [hW]; exact Has.new w _ 28
  have hBW : Below w.heap.size w W := by rw [hW]; exact (Below.refl _ _).alloc (Nat.le_refl _) _
  have hc := text_any ta na ia xa bv hsa W (hE.below hBW)
  have a0 := hA.cell (o := 0) rfl
  have a1 := hA.cell (o := 1) rfl
  have a2 := hA.cell (o := 2) rfl
  have a3 := hA.cell (o := 3) rfl
  have a4 := hA.cell (o := 4) rfl
  replace hW := Lib.hid hW.symm
  replace hc := Lib.hid hc
  replace hBW := Lib.hid hBW
  clear hA hE
  cases na with
  | true =>
    go_enter Tryz.func35, Tryz.ntmps35
    go_upto_region 1 with fail
    rw [hW.out]
    go_wp2_with fail
    go_ret
    exact ⟨rfl, hBW.out⟩
  | false =>
    go_enter Tryz.func35, Tryz.ntmps35
    go_upto_region 1 with fail
    rw [hW.out]
    go_wp2_with fail
    refine hc.out.mono ?_
    rintro e w1 ⟨rfl, hb⟩
    have hb2 := Lib.hid (hBW.out.trans (hb.mono hBW.out.size))
    clear hb
    go_wp2_with fail
    go_ret
    exact ⟨rfl, hb2.out⟩
end Go.Proofs.YtgnoikfmhncbmaaGreatDoor

namespace Go.Proofs.YtgnoikfmhncbmaaGreatDoor
open Go.RowKit Go.Lib
def strV (l : List UInt8) : Value := .string (ba l)
/-- The plan's box, and the words so far. -/
structure TxSt (W : World) (b : Nat) (pc : List Value) (L : List (List UInt8)) (v : Value) (wx : World) : Prop where
  P : Has wx b pc 43
  lt : b < W.heap.size
  R : ∃ sa sc, v = .slice sa L.length sc ∧ RowB W 9 1 L.length (L.map strV) sa sc wx
section
variable {W wx w' : World} {b : Nat} {pc : List Value} {L : List (List UInt8)} {v : Value}
theorem TxSt.start (h : Has W b pc 43) : TxSt W b pc [] (.slice none 0 0) W := ⟨h, h.lt, none, 0, rfl, RowB.nil W _ _⟩
theorem TxSt.hb (h : TxSt W b pc L v wx) : Below W.heap.size W wx := by obtain ⟨_, _, _, hR⟩ := h.R; exact hR.b
theorem TxSt.below (h : TxSt W b pc L v wx) (hb : Below wx.heap.size wx w') : TxSt W b pc L v w' := by
  obtain ⟨sa, sc, e, hR⟩ := h.R
  exact ⟨h.P.only (Only.of_below hb) (Nat.not_le.2 h.P.lt), h.lt, sa, sc, e, hR.below hb⟩
theorem TxSt.alloc (h : TxSt W b pc L v wx) (o : Obj) : TxSt W b pc L v (wx.alloc o) := h.below ((Below.refl _ _).alloc (Nat.le_refl _) o)
theorem TxSt.drew (h : TxSt W b pc L v wx) : TxSt W b pc L v wx.drew := h.below (Below.refl _ _).drew
theorem infoStr : (Tryz.prog.info? 9).map (fun i => (i.zero, i.size, i.bytes)) = some (some (.string ByteArray.empty), 1, 16) := by kernel_rfl
theorem TxSt.app (h : TxSt W b pc L v wx) (ty : TypeId) (N : List (List UInt8)) (hl : L.length + N.length ≤ 100) :
    ∃ v' w2, (Builtin.append_ #[78, 78] ty #[v, .slice (some ⟨wx.heap.size, 0, none⟩) N.length N.length]).run Tryz.prog (wx.alloc (.cells (N.map strV).toArray 9)) = .ok v' w2 ∧ TxSt W b pc (L ++ N) v' w2 := by
  have ha := h.alloc (.cells (N.map strV).toArray 9)
  obtain ⟨sa, sc, rfl, hR⟩ := ha.R
  obtain ⟨sa', sc', w2, hr, h2, h3⟩ := hR.app_run (P := Tryz.prog) 78 ty (.string ByteArray.empty) 16 Tryz.underlying78 infoStr rfl (by decide) (by decide) ⟨wx.heap.size, 0, none⟩ N.length N.length (N.map strV) (by simp)
    (fun j u hj => news_at (Has.new wx (N.map strV) 9) j u hj) (fun u hu => by obtain ⟨l, _, rfl⟩ := List.mem_map.1 hu; rfl) (by omega)
  have e1 : (L ++ N).length = L.length + N.length := List.length_append
  refine ⟨_, w2, hr, ha.P.only h3 (fun e => ?_), h.lt, sa', sc', by rw [e1], ?_⟩
  · have := hR.ob _ e
    have := h.lt
    omega
  · rw [e1, List.map_append]; exact h2
theorem wpList_txt {ops : Array Oper} {rest : List Oper} {o : Oper} {a : Act} {Q : Exit → Act → World → Prop} (hgd : o.guard = none) (s x : Operand)
    (ho : o.op = .call { callee := .builtin .append, args := #[s, x], argTypes := #[78, 78] }) (h : TxSt W b pc L v wx) (hs : a.eval s = v) (N : List (List UInt8)) (hl : L.length + N.length ≤ 100)
    (hx : a.eval x = .slice (some ⟨wx.heap.size, 0, none⟩) N.length N.length) (w1 : World) (hw1 : w1 = wx.alloc (.cells (N.map strV).toArray 9))
    (hK : ∀ v' w2, TxSt W b pc (L ++ N) v' w2 → wpList Tryz.prog ops Q rest (a.put o.dst v') w2) : wpList Tryz.prog ops Q (o :: rest) a w1 := by
  refine wpList_plain hgd fun K hK2 => ?_
  obtain ⟨v', w2, hr, h2⟩ := h.app o.type N hl
  subst hw1
  unfold Oper.wp execOp
  simp only [ho, resolve, invoke, builtin, Sem.run_bind, Sem.run_pure, Result.andThen_ok, List.map_toArray, List.map_cons, List.map_nil, hs, hx, hr]
  exact hK2 _ _ (hK v' w2 h2)
theorem step_txt {ops : Array Oper} {o : Oper} {a : Act} {K : Act → World → Prop} {Q : Exit → Act → World → Prop} {E : Prop} (hgd : o.guard = none) (s x : Operand)
    (ho : o.op = .call { callee := .builtin .append, args := #[s, x], argTypes := #[78, 78] }) (h : TxSt W b pc L v wx) (hs : a.eval s = v) (N : List (List UInt8)) (hl : L.length + N.length ≤ 100)
    (hx : a.eval x = .slice (some ⟨wx.heap.size, 0, none⟩) N.length N.length) (w1 : World) (hw1 : w1 = wx.alloc (.cells (N.map strV).toArray 9))
    (hK : ∀ v' w2, TxSt W b pc (L ++ N) v' w2 → K (a.put o.dst v') w2) : if Region.wanted o (yielded ops a.tmps) = true then Oper.wp Tryz.prog o a w1 K Q else E := by
  have hw : Region.wanted o (yielded ops a.tmps) = true := by simp [Region.wanted, hgd]
  rw [if_pos hw]
  obtain ⟨v', w2, hr, h2⟩ := h.app o.type N hl
  subst hw1
  unfold Oper.wp execOp
  simp only [ho, resolve, invoke, builtin, Sem.run_bind, Sem.run_pure, Result.andThen_ok, List.map_toArray, List.map_cons, List.map_nil, hs, hx, hr]
  exact hK v' w2 h2
theorem TxSt.join (h : TxSt W b pc L v wx) (hL : L ≠ []) (h1 : L.length ≤ 100) (h2 : (join L [32]).length ≤ 140737488355328) :
    Calls Tryz.prog 37 #[v, .string ⟨#[32]⟩] wx (RPost wx (.string (ba (join L [32])))) := by
  obtain ⟨sa, sc, rfl, hR⟩ := h.R
  have hpos : 0 < L.length := by cases L with | nil => exact absurd rfl hL | cons _ _ => simp
  obtain ⟨g, rfl, hg⟩ := hR.nonnil hpos
  have hc : L.length ≤ sc := by
    rcases hR.o.2 with ⟨_, h0⟩ | ⟨g', cap, cur, hv, _, _, _, hcap, _⟩
    · omega
    · simp only [Value.slice.injEq] at hv
      omega
  obtain ⟨b2, off, cap, hv, hcell⟩ := hR.rd.cells hpos
  simp only [Value.slice.injEq, Option.some.injEq, Addr.mk.injEq, true_and, and_true] at hv
  obtain ⟨⟨rfl, rfl⟩, rfl⟩ := hv
  have hlt : g < wx.heap.size := ownsRow_lt hR.o rfl
  have hm : (L.map ba).map (fun x => x.data.toList) = L := by rw [List.map_map]; exact List.map_id L
  have hj := Tryz.strings_Join g 0 sc (L.map ba) ⟨#[32]⟩ wx (fun j x hx => hcell j _ (by rw [List.getElem?_map] at hx ⊢; cases hl : L[j]? with
    | none => rw [hl] at hx; cases hx
    | some l => rw [hl] at hx; simp only [Option.map_some, Option.some.injEq] at hx ⊢; rw [← hx]; rfl)) hlt (by rw [List.length_map]; omega) (by rw [List.length_map]; exact hc) (by rw [hm]; exact h2)
  rw [hm, List.length_map] at hj
  exact hj
end
theorem itoa10_any (n : Int) (h0 : -9223372036854775808 ≤ n) (h1 : n ≤ 9223372036854775807) (w : World) (hE : Env w) : Calls Tryz.prog 36 #[.int .i64 n] w (RPost w (.string (ba (itoa n)))) :=
  (Tryz.strconv_Itoa n h0 h1 w hE.pw).mono fun e w' ⟨he, k, os, hw⟩ => ⟨he, hw ▸ below_grow _ w (Nat.le_refl _) k os⟩
def fullW : List UInt8 := [102, 117, 108, 108]
def idsW : List UInt8 := [105, 100, 115]
def indexW : List UInt8 := [105, 110, 100, 101, 120]
def filterW : List UInt8 := [102, 105, 108, 116, 101, 114]
def orderW : List UInt8 := [111, 114, 100, 101, 114]
def descW : List UInt8 := [100, 101, 115, 99]
def limitW : List UInt8 := [108, 105, 109, 105, 116]
def pathL (p : Nat) (col : ByteArray) (lo hi : RV) (a b : Nat) : List (List UInt8) :=
  if p = 1 then [fullW] else if p = 2 then [idsW, decDigits a, decDigits b] else [indexW, col.data.toList, boundP lo, boundP hi]
def filL (f : Bool) : List (List UInt8) := if f then [filterW] else []
def dscL (ds : Bool) : List (List UInt8) := if ds then [descW] else []
def ordL (od : ByteArray) (ds : Bool) : List (List UInt8) := if od = ⟨#[]⟩ then [] else [orderW, od.data.toList] ++ dscL ds
def limL (lm : Int) : List (List UInt8) := if 0 ≤ lm then [limitW, itoa lm] else []
def tailL (f : Bool) (od : ByteArray) (ds : Bool) (lm : Int) : List (List UInt8) := filL f ++ ordL od ds ++ limL lm
def textL (p : Nat) (col : ByteArray) (lo hi : RV) (a b : Nat) (f : Bool) (od : ByteArray) (ds : Bool) (lm : Int) : List UInt8 :=
  if p = 1 ∨ p = 2 ∨ p = 3 then join (pathL p col lo hi a b ++ tailL f od ds lm) [32] else []
end Go.Proofs.YtgnoikfmhncbmaaGreatDoor
