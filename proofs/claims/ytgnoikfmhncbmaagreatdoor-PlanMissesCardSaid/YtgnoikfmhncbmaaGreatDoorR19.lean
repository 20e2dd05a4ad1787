/- The walk of row.Compare. The walk of RowOrder. -/
import Derived.Test.YtgnoikfmhncbmaaGreatDoorR3
import Derived.Test.YtgnoikfmhncbmaaGreatDoorNum
import Derived.Test.YtgnoikfmhncbmaaGreatDoorR17
set_option linter.unusedVariables false
set_option linter.unusedSimpArgs false
namespace Go.Proofs.YtgnoikfmhncbmaaGreatDoor
open Go.RowKit Go.Lib

theorem number_q (b : Bool) (w : World) : Calls Tryz.prog 69 #[.bool b] w fun e w' => e = .returned (.int .i64 (b2i b)) ∧ w' = w := (number_any b w).mono fun _ _ ⟨h, e⟩ => ⟨h, e.symm⟩
theorem cmpi64_any (x y : Int) (w : World) : Calls Tryz.prog 70 #[.int .i64 x, .int .i64 y] w fun e w' => e = .returned (.int .i64 (compareInt x y)) ∧ w' = w := by
  unfold compareInt
  by_cases h1 : x < y
  · rw [if_pos h1]
    go_enter Tryz.func70, Tryz.ntmps70
    go_wp2
    go_ret
    exact ⟨rfl, rfl⟩
  · rw [if_neg h1]
    by_cases h2 : y < x
    · rw [if_pos h2]
      go_enter Tryz.func70, Tryz.ntmps70
      go_wp2
      go_ret
      exact ⟨rfl, rfl⟩
    · rw [if_neg h2]
      go_enter Tryz.func70, Tryz.ntmps70
      go_wp2
      go_ret
      exact ⟨rfl, rfl⟩
def orP : List Int → Int
  | [] => 0
  | x :: l => if x ≠ 0 then x else orP l
theorem orP_hit : ∀ (l : List Int) (k : Nat), k < l.length → (∀ j, j < k → l.getD j 0 = 0) → l.getD k 0 ≠ 0 → orP l = l.getD k 0
  | x :: l, 0, _, _, h => by simp only [List.getD_cons_zero] at h ⊢; unfold orP; rw [if_pos h]
  | x :: l, k + 1, hk, hj, h => by
    have h0 := hj 0 (by omega)
    simp only [List.getD_cons_zero] at h0
    simp only [List.getD_cons_succ] at h ⊢
    unfold orP
    rw [if_neg (by simp [h0])]
    exact orP_hit l k (by simpa using hk) (fun j hl => by have := hj (j + 1) (by omega); simpa using this) h
  | [], _, hk, _, _ => by simp at hk
theorem orP_none : ∀ (l : List Int), (∀ j, j < l.length → l.getD j 0 = 0) → orP l = 0
  | [], _ => rfl
  | x :: l, hj => by
    have h0 := hj 0 (by simp)
    simp only [List.getD_cons_zero] at h0
    unfold orP
    rw [if_neg (by simp [h0])]
    exact orP_none l (fun j hl => by have := hj (j + 1) (by simp; omega); simpa using this)
theorem cmpor_any (l : List Int) (hl : l.length ≤ 1000) (a : Option Addr) (c : Nat) (w : World) (hr : Rd w (.slice a l.length c) l.length (l.map (.int .i64))) :
    Calls Tryz.prog 67 #[.slice a l.length c] w (fun e w' => e = .returned (.int .i64 (orP l)) ∧ w = w') := by
  go_enter Tryz.func67, Tryz.ntmps67
  go_wp2_with fail
  go_loop [8] (fun i => ∃ k : Nat, k ≤ l.length ∧ i = .int .i64 k ∧ (∀ j, j < k → l.getD j 0 = 0)) (fun i => l.length - (RowKit.intOf i).toNat)
  case atStart => exact ⟨0, by omega, rfl, fun j hj => by omega⟩
  case round =>
    obtain ⟨k, hk, rfl, hz⟩ := hrel
    by_cases hlt : k < l.length
    · have hlI : (k : Int) < l.length := by omega
      obtain ⟨bl, ol, cl, ea, fa⟩ := hr.cells (by omega)
      simp only [Value.slice.injEq, true_and] at ea
      obtain ⟨rfl, hcap⟩ := ea
      replace hcap := Lib.hid hcap
      have c0 : w.cell? ⟨bl, ol + k, none⟩ = some (.int .i64 (l.getD k 0)) := fa k _ (ints_get l .i64 k hlt)
      have hh := orP_hit l k hlt hz
      have hz2 : l.getD k 0 = 0 → ∀ j, j < k + 1 → l.getD j 0 = 0 := by
        intro h j hj
        by_cases e : j = k
        · subst e; exact h
        · exact hz j (by omega)
      generalize l.getD k 0 = x at *
      replace hh := Lib.hid hh
      replace hz2 := Lib.hid hz2
      clear fa hz
      by_cases hx : x = 0
      · have d1 : (x != 0) = false := by simp [hx]
        have hz3 := hz2.out hx
        replace hz3 := Lib.hid hz3
        replace hx := Lib.hid hx
        go_wp2_with fail
        go_round
        case rel => exact ⟨k + 1, by omega, by go_num, hz3.out⟩
        case measure => simp [RowKit.intOf]; omega
      · have d1 : (x != 0) = true := by simp [hx]
        have he := hh.out hx
        replace hx := Lib.hid hx
        replace he := Lib.hid he
        go_wp2_with fail
        go_ret
        exact ⟨ret1_eq (int_eq he.out.symm), rfl⟩
    · have hkI : ¬ (k : Int) < l.length := by omega
      have he := orP_none l (fun j hj => hz j (by omega))
      replace he := Lib.hid he
      clear hz hr
      go_wp2_with fail
      go_ret
      exact ⟨ret1_eq (int_eq he.out.symm), rfl⟩
theorem cmpV_or (a b : RV) : cmpV a b = orP [compareInt (b2i b.nl) (b2i a.nl), compareInt a.n b.n, compareInt (b2i a.b) (b2i b.b), compareBytes a.tx.data.toList b.tx.data.toList] := by
  unfold cmpV orP orP orP orP orP
  (repeat' split) <;> first | rfl | omega
def cmpBad (a b : RV) : Bool := !decide (formP a = 0) || (!decide (formP b = 0) || decide (a.ty ≠ b.ty))
def cmpRes (a b : RV) : Value := if cmpBad a b then .tuple #[.int .i64 0, .int .i64 16] else .tuple #[.int .i64 (cmpV a b), .int .i64 0]
set_option maxHeartbeats 4000000 in
set_option maxRecDepth 100000 in
theorem compare_any (ta : Nat) (na : Bool) (ia : Int) (xa : ByteArray) (ba : Bool) (tb : Nat) (nb : Bool) (ib : Int) (xb : ByteArray) (bb : Bool) (hsa : xa.size ≤ 9223372036854775807) (hsb : xb.size ≤ 9223372036854775807) (w : World) (hE : Env w) :
    Calls Tryz.prog 43 #[.agg #[.int .u8 (ta : Int), .bool na, .int .i64 ia, .string xa, .bool ba], .agg #[.int .u8 (tb : Int), .bool nb, .int .i64 ib, .string xb, .bool bb]] w (RPost w (cmpRes ⟨ta, na, ia, xa, ba⟩ ⟨tb, nb, ib, xb, bb⟩)) := by
  obtain ⟨W0, hW0⟩ : ∃ W, W = w.alloc (.cells #[.int .u8 (ta : Int), .bool na, .int .i64 ia, .string xa, .bool ba] 28) := ⟨_, rfl⟩
  obtain ⟨W, hW⟩ : ∃ W, W = W0.alloc (.cells #[.int .u8 (tb : Int), .bool nb, .int .i64 ib, .string xb, .bool bb] 28) := ⟨_, rfl⟩
  have hz0 : W0.heap.size = w.heap.size + 1 := by rw [hW0]; simp
  have hA : Has W w.heap.size [.int .u8 (ta : Int), .bool na, .int .i64 ia, .string xa, .bool ba] 28 := by rw [hW, hW0]; exact (Has.new w _ 28).alloc _
  have hB : Has W (w.heap.size + 1) [.int .u8 (tb : Int), .bool nb, .int .i64 ib, .string xb, .bool bb] 28 := by
    have := Has.new W0 [.int .u8 (tb : Int), .bool nb, .int .i64 ib, .string xb, .bool bb] 28
    rw [hz0] at this
    rw [hW]; exact this
  have hBW : Below w.heap.size w W := by rw [hW, hW0]; exact ((Below.refl _ _).alloc (Nat.le_refl _) _).alloc (by simp) _
  have hEW := hE.below hBW
  have hva := fun w' (hb : Below W.heap.size W w') => valid1_any ta na ia xa ba hsa w' (hEW.below hb)
  have hvb := fun w' (hb : Below W.heap.size W w') => valid1_any tb nb ib xb bb hsb w' (hEW.below hb)
  obtain ⟨fa, hfa⟩ : ∃ x, x = decide (formP ⟨ta, na, ia, xa, ba⟩ = 0) := ⟨_, rfl⟩
  obtain ⟨fb, hfb⟩ : ∃ x, x = decide (formP ⟨tb, nb, ib, xb, bb⟩ = 0) := ⟨_, rfl⟩
  rw [← hfa] at hva
  rw [← hfb] at hvb
  have hres : cmpRes ⟨ta, na, ia, xa, ba⟩ ⟨tb, nb, ib, xb, bb⟩ = if (!fa || (!fb || decide (ta ≠ tb))) then .tuple #[.int .i64 0, .int .i64 16] else .tuple #[.int .i64 (orP [compareInt (b2i nb) (b2i na), compareInt ia ib, compareInt (b2i ba) (b2i bb), compareBytes xa.data.toList xb.data.toList]), .int .i64 0] := by
    unfold cmpRes cmpBad
    rw [← hfa, ← hfb, cmpV_or]
  have hfin : ∀ v, cmpRes ⟨ta, na, ia, xa, ba⟩ ⟨tb, nb, ib, xb, bb⟩ = v → ∀ w', Below W.heap.size W w' → RPost w (cmpRes ⟨ta, na, ia, xa, ba⟩ ⟨tb, nb, ib, xb, bb⟩) (.returned v) w' := by
    intro v hv w' hb
    rw [hv]
    exact ⟨rfl, hBW.trans (hb.mono hBW.size)⟩
  generalize cmpRes ⟨ta, na, ia, xa, ba⟩ ⟨tb, nb, ib, xb, bb⟩ = res at *
  generalize RPost w res = post at *
  have hne : ((ta : Int) != (tb : Int)) = decide (ta ≠ tb) := bne_nat ta tb
  generalize decide (ta ≠ tb) = tne at *
  have kA := fun w' (hb : Below W.heap.size W w') => hA.only (Only.of_below hb) (Nat.not_le.2 hA.lt)
  have kB := fun w' (hb : Below W.heap.size W w') => hB.only (Only.of_below hb) (Nat.not_le.2 hB.lt)
  have a0 := hA.cell (o := 0) rfl
  have a1 := hA.cell (o := 1) rfl
  have a2 := hA.cell (o := 2) rfl
  have a3 := hA.cell (o := 3) rfl
  have a4 := hA.cell (o := 4) rfl
  replace hW := Lib.hid hW
  replace hW0 := Lib.hid hW0
  replace hz0 := Lib.hid hz0
  replace hva := Lib.hid hva
  replace hvb := Lib.hid hvb
  replace hfin := Lib.hid hfin
  replace hres := Lib.hid hres
  replace hfa := Lib.hid hfa
  replace hfb := Lib.hid hfb
  replace kA := Lib.hid kA
  replace kB := Lib.hid kB
  replace hBW := Lib.hid hBW
  replace hEW := Lib.hid hEW
  clear hA hB hE
  go_enter Tryz.func43, Tryz.ntmps43
  go_upto_region 1 with fail
  rw [← hW0.out, ← hW.out]
  go_wp2_with fail
  refine (hva.out _ (Below.refl _ _)).mono ?_
  rintro e w1 ⟨rfl, hb1⟩
  clear a0 a1 a2 a3 a4
  cases fa with
  | false =>
    have hf := hfin.out (.tuple #[.int .i64 0, .int .i64 16]) (by rw [hres.out]; simp) w1 hb1
    replace hf := Lib.hid hf
    clear hb1 hne
    go_wp2_with fail
    first | exact hf.out | (go_ret2; exact hf.out)
  | true =>
    have hB1 := kB.out w1 hb1
    have b0 := hB1.cell (o := 0) rfl
    have b1 := hB1.cell (o := 1) rfl
    have b2 := hB1.cell (o := 2) rfl
    have b3 := hB1.cell (o := 3) rfl
    have b4 := hB1.cell (o := 4) rfl
    replace hb1 := Lib.hid hb1
    clear hB1
    go_wp2_with fail
    refine (hvb.out _ hb1.out).mono ?_
    rintro e w2 ⟨rfl, hb12⟩
    have hb2 := hb1.out.trans (hb12.mono hb1.out.size)
    clear b0 b1 b2 b3 b4 hb12 hva hvb
    cases fb with
    | false =>
      have hf := hfin.out (.tuple #[.int .i64 0, .int .i64 16]) (by rw [hres.out]; simp) w2 hb2
      replace hf := Lib.hid hf
      clear hb2 hne
      go_wp2_with fail
      first | exact hf.out | (go_ret2; exact hf.out)
    | true =>
      have hA2 := kA.out w2 hb2
      have hB2 := kB.out w2 hb2
      have a0 := hA2.cell (o := 0) rfl
      have b0 := hB2.cell (o := 0) rfl
      cases tne with
      | true =>
        have hf := hfin.out (.tuple #[.int .i64 0, .int .i64 16]) (by rw [hres.out]; simp) w2 hb2
        replace hf := Lib.hid hf
        clear hb2 hA2 hB2
        go_wp2_with fail
        first | exact hf.out | (go_ret2; exact hf.out)
      | false =>
        have a1 := hA2.cell (o := 1) rfl
        have a2 := hA2.cell (o := 2) rfl
        have a3 := hA2.cell (o := 3) rfl
        have a4 := hA2.cell (o := 4) rfl
        have b1 := hB2.cell (o := 1) rfl
        have b2 := hB2.cell (o := 2) rfl
        have b3 := hB2.cell (o := 3) rfl
        have b4 := hB2.cell (o := 4) rfl
        have hf := fun w' hb => hfin.out (.tuple #[.int .i64 (orP [compareInt (b2i nb) (b2i na), compareInt ia ib, compareInt (b2i ba) (b2i bb), compareBytes xa.data.toList xb.data.toList]), .int .i64 0]) (by rw [hres.out]; simp) w' hb
        have q1 := fun wx => number_q nb wx
        have q2 := fun wx => number_q na wx
        have q3 := fun wx => number_q ba wx
        have q4 := fun wx => number_q bb wx
        have q5 := fun wx => cmpint_any (b2i nb) (b2i na) wx
        have q6 := fun wx => cmpi64_any ia ib wx
        have q7 := fun wx => cmpint_any (b2i ba) (b2i bb) wx
        have q8 := fun wx => strcmp_any xa xb wx
        generalize compareInt (b2i nb) (b2i na) = k1 at *
        generalize compareInt ia ib = k2 at *
        generalize compareInt (b2i ba) (b2i bb) = k3 at *
        generalize compareBytes xa.data.toList xb.data.toList = k4 at *
        generalize b2i nb = n1 at *
        generalize b2i na = n2 at *
        generalize b2i ba = n3 at *
        generalize b2i bb = n4 at *
        have hor := cmpor_any [k1, k2, k3, k4] (by simp) (some ⟨w2.heap.size, 0, none⟩) 4 (w2.drew.alloc (.cells #[.int .i64 k1, .int .i64 k2, .int .i64 k3, .int .i64 k4] 3)) (Rd.of_has (Has.new w2.drew [.int .i64 k1, .int .i64 k2, .int .i64 k3, .int .i64 k4] 3) 4 4)
        have hbz : Below W.heap.size W (w2.drew.alloc (.cells #[.int .i64 k1, .int .i64 k2, .int .i64 k3, .int .i64 k4] 3)) := (below_drew hb2).alloc hb2.size _
        have hfz := hf _ hbz
        replace hfz := Lib.hid hfz
        replace hor := Lib.hid hor
        replace q1 := Lib.hid q1
        replace q2 := Lib.hid q2
        replace q3 := Lib.hid q3
        replace q4 := Lib.hid q4
        replace q5 := Lib.hid q5
        replace q6 := Lib.hid q6
        replace q7 := Lib.hid q7
        replace q8 := Lib.hid q8
        clear hf hbz hA2 hB2 hb2
        go_upto_region 3 with fail
        refine region_tail 24 (by kernel_rfl) (by kernel_rfl) ?_
        simp only [List.take_succ_cons, List.take_zero, List.drop_succ_cons, List.drop_zero]
        repeat still_step
        still_call (q1.out _)
        repeat still_step
        still_call (q2.out _)
        repeat still_step
        still_call (q5.out _)
        repeat still_step
        still_call (q6.out _)
        repeat still_step
        still_call (q3.out _)
        repeat still_step
        still_call (q4.out _)
        repeat still_step
        still_call (q7.out _)
        repeat still_step
        still_call (q8.out _)
        repeat still_step
        refine wpStill_nil ?_
        go_wp2_with fail
        refine hor.out.mono ?_
        rintro e w3 ⟨rfl, rfl⟩
        go_wp2_with fail
        first | exact hfz.out | (go_ret2; exact hfz.out)
end Go.Proofs.YtgnoikfmhncbmaaGreatDoor

namespace Go.Proofs.YtgnoikfmhncbmaaGreatDoor
open Go.RowKit Go.Lib

def cmpX (a b : RV) : Int := if cmpBad a b then 0 else cmpV a b
def cmpE (a b : RV) : Nat := if cmpBad a b then 16 else 0
theorem cmpRes_xe (a b : RV) : cmpRes a b = .tuple #[.int .i64 (cmpX a b), .int .i64 (cmpE a b : Nat)] := by
  unfold cmpRes cmpX cmpE
  cases cmpBad a b <;> rfl
theorem cmpE_zero {a b : RV} (h : cmpE a b = 0) : cmpBad a b = false ∧ formP a = 0 ∧ formP b = 0 ∧ a.ty = b.ty := by
  unfold cmpE at h
  cases hb : cmpBad a b with
  | true => rw [hb] at h; simp at h
  | false =>
    unfold cmpBad at hb
    simp only [Bool.or_eq_false_iff, Bool.not_eq_false', decide_eq_true_eq, decide_eq_false_iff_not] at hb
    exact ⟨rfl, hb.1, hb.2.1, by simpa using hb.2.2⟩
theorem cmpE_ok {a b : RV} (ha : formP a = 0) (hb : formP b = 0) (ht : a.ty = b.ty) : cmpE a b = 0 ∧ cmpX a b = cmpV a b := by
  have : cmpBad a b = false := by
    unfold cmpBad
    rw [decide_eq_true ha, decide_eq_true hb, decide_eq_false (by simpa using ht)]; rfl
  unfold cmpE cmpX
  rw [this]
  exact ⟨rfl, rfl⟩
theorem order_law {a b c : RV} (h1 : cmpE a b = 0) (h2 : cmpE b c = 0) : cmpE a c = 0 ∧ cmpE a a = 0 ∧ cmpX a a = 0 ∧ (0 < cmpX a b ∨ 0 < cmpX b c ∨ cmpX a c ≤ 0) ∧ (cmpX a b = 0 → cmpX b c = cmpX a c) := by
  obtain ⟨_, fa, fb, t1⟩ := cmpE_zero h1
  obtain ⟨_, _, fc, t2⟩ := cmpE_zero h2
  obtain ⟨_, x1⟩ := cmpE_ok fa fb t1
  obtain ⟨_, x2⟩ := cmpE_ok fb fc t2
  obtain ⟨e3, x3⟩ := cmpE_ok fa fc (t1.trans t2)
  obtain ⟨e4, x4⟩ := cmpE_ok fa fa rfl
  obtain ⟨g1, g2⟩ := cmp_trans fa fb fc t1 t2
  rw [x1, x2, x3, x4]
  refine ⟨e3, e4, cmp_self fa, ?_, g2⟩
  by_cases p : 0 < cmpV a b
  · exact .inl p
  · by_cases q : 0 < cmpV b c
    · exact .inr (.inl q)
    · exact .inr (.inr (g1 (by omega) (by omega)))
end Go.Proofs.YtgnoikfmhncbmaaGreatDoor
