/- Walks: ids, usable, single, ranged. -/
import Derived.Test.YtgnoikfmhncbmaaGreatDoorT2
import Derived.Test.YtgnoikfmhncbmaaGreatDoorR24
set_option linter.unusedVariables false
set_option linter.unusedSimpArgs false
namespace Go.Proofs.YtgnoikfmhncbmaaGreatDoor
open Go.RowKit
def firstP (lo : RV) : Int := if lo.nl = true then 0 else if 0 < lo.n then lo.n else 0
def lastP (hi : RV) : Int := if hi.nl = true then 4294967295 else if hi.n < 4294967295 then hi.n else 4294967295
def idsP (lo hi : RV) : Int × Int := if lastP hi < 0 ∨ 4294967295 < firstP lo then (1, 0) else (firstP lo, lastP hi)
def usableP (v : RV) : Bool := v.nl || decide (keyE v = 0)
def singleP (lo hi : RV) : Bool := !(lo.nl || hi.nl) && (decide (cmpE lo hi = 0) && decide (cmpX lo hi = 0))
def rangedP (kind : Nat) (lo hi : RV) : Bool := decide (kind ≠ 2) && (!lo.nl || !hi.nl) && usableP lo && usableP hi
set_option maxHeartbeats 4000000 in
set_option maxRecDepth 100000 in
theorem usable_any (v : RV) (hs : v.tx.size ≤ 140737488351232) (w : World) (hE : Env w) : Calls Tryz.prog 74 #[v.val] w (RPost w (.bool (usableP v))) := by
  generalize hpost : RPost w (.bool (usableP v)) = post
  have hf : ∀ (b : Bool) w', usableP v = b → Below w.heap.size w w' → post (.returned (.bool b)) w' := fun b w' h1 h2 => by rw [← hpost, h1]; exact ⟨rfl, h2⟩
  clear hpost
  replace hf := Lib.hid hf
  obtain ⟨tv, nv, iv, xv, bv⟩ := v
  obtain ⟨W1, hW1⟩ : ∃ W1, W1 = w.alloc (.cells #[.int .u8 (tv : Int), .bool nv, .int .i64 iv, .string xv, .bool bv] 28) := ⟨_, rfl⟩
  have hb1 : Below w.heap.size w W1 := by rw [hW1]; exact (Below.refl _ _).alloc (Nat.le_refl _) _
  have H := Has.new w [.int .u8 (tv : Int), .bool nv, .int .i64 iv, .string xv, .bool bv] 28
  have c0 := H.cell (o := 0) rfl
  have c1 := H.cell (o := 1) rfl
  have c2 := H.cell (o := 2) rfl
  have c3 := H.cell (o := 3) rfl
  have c4 := H.cell (o := 4) rfl
  have hk := key_any tv nv iv xv bv (by dsimp only at hs; omega) W1 (hE.below hb1)
  rw [hW1] at hk
  unfold RV.val
  dsimp only
  cases nv with
  | true =>
    have hfin := Lib.hid (hf.out true W1 rfl hb1)
    rw [hW1] at hfin
    replace hW1 := Lib.hid hW1
    replace hk := Lib.hid hk
    clear H
    go_enter Tryz.func74, Tryz.ntmps74
    go_wp2_with fail
    exact hfin.out
  | false =>
    obtain ⟨kx, hkx⟩ : ∃ kx, keyX ⟨tv, false, iv, xv, bv⟩ = kx := ⟨_, rfl⟩
    obtain ⟨ke, hke⟩ : ∃ ke, keyE ⟨tv, false, iv, xv, bv⟩ = ke := ⟨_, rfl⟩
    rw [hkx, hke] at hk
    have hf2 : ∀ w', Below W1.heap.size W1 w' → post (.returned (.bool (((ke : Nat) : Int) == 0))) w' := fun w' h => hf.out _ w' (by
      unfold usableP
      rw [hke]
      simp only [Bool.false_or]
      rw [Bool.eq_iff_iff]; simp) (hb1.trans (h.mono hb1.size))
    rw [hW1] at hf2
    replace hf2 := Lib.hid hf2
    replace hW1 := Lib.hid hW1
    replace hk := Lib.hid hk
    replace hkx := Lib.hid hkx
    replace hke := Lib.hid hke
    clear H
    go_enter Tryz.func74, Tryz.ntmps74
    go_wp2_with fail
    refine hk.out.mono ?_
    rintro e w2 ⟨rfl, hb2⟩
    have hfin := Lib.hid (hf2.out w2 hb2)
    clear hb2 c0 c1 c2 c3 c4
    go_wp2_with fail
    exact hfin.out
set_option maxHeartbeats 4000000 in
set_option maxRecDepth 100000 in
theorem single_any (lo hi : RV) (kind : Nat) (ha : lo.tx.size ≤ 140737488351232) (hb : hi.tx.size ≤ 140737488351232) (w : World) (hE : Env w) : Calls Tryz.prog 47 #[.int .u8 (kind : Int), lo.val, hi.val] w (RPost w (.bool (singleP lo hi))) := by
  generalize hpost : RPost w (.bool (singleP lo hi)) = post
  have hf : ∀ v w', .bool (singleP lo hi) = v → Below w.heap.size w w' → post (.returned v) w' := fun v w' h1 h2 => by rw [← hpost, h1]; exact ⟨rfl, h2⟩
  clear hpost
  replace hf := Lib.hid hf
  obtain ⟨ta, na, ia, xa, ba⟩ := lo
  obtain ⟨tb, nb, ib, xb, bb⟩ := hi
  obtain ⟨W2, hW2⟩ : ∃ W2, W2 = (w.alloc (.cells #[.int .u8 (ta : Int), .bool na, .int .i64 ia, .string xa, .bool ba] 28)).alloc (.cells #[.int .u8 (tb : Int), .bool nb, .int .i64 ib, .string xb, .bool bb] 28) := ⟨_, rfl⟩
  have hb2 : Below w.heap.size w W2 := by rw [hW2]; exact ((Below.refl _ _).alloc (Nat.le_refl _) _).alloc (by simp) _
  have HP := (Has.new w [.int .u8 (ta : Int), .bool na, .int .i64 ia, .string xa, .bool ba] 28).alloc (.cells #[.int .u8 (tb : Int), .bool nb, .int .i64 ib, .string xb, .bool bb] 28)
  have HQ := Has.new (w.alloc (.cells #[.int .u8 (ta : Int), .bool na, .int .i64 ia, .string xa, .bool ba] 28)) [.int .u8 (tb : Int), .bool nb, .int .i64 ib, .string xb, .bool bb] 28
  simp only [World.size_alloc] at HQ
  have p0 := HP.cell (o := 0) rfl
  have p1 := HP.cell (o := 1) rfl
  have p2 := HP.cell (o := 2) rfl
  have p3 := HP.cell (o := 3) rfl
  have p4 := HP.cell (o := 4) rfl
  have q0 := HQ.cell (o := 0) rfl
  have q1 := HQ.cell (o := 1) rfl
  have q2 := HQ.cell (o := 2) rfl
  have q3 := HQ.cell (o := 3) rfl
  have q4 := HQ.cell (o := 4) rfl
  dsimp only [RV.val]
  cases na with
  | true =>
    have hfin := Lib.hid (hf.out (.bool false) W2 (rfl) hb2)
    rw [hW2] at hfin
    replace hW2 := Lib.hid hW2
    clear HP HQ
    go_enter Tryz.func47, Tryz.ntmps47
    go_wp2_with fail
    exact hfin.out
  | false =>
    cases nb with
    | true =>
      have hfin := Lib.hid (hf.out (.bool false) W2 (rfl) hb2)
      rw [hW2] at hfin
      replace hW2 := Lib.hid hW2
      clear HP HQ
      go_enter Tryz.func47, Tryz.ntmps47
      go_wp2_with fail
      exact hfin.out
    | false =>
      have hc := cmp_c ⟨ta, false, ia, xa, ba⟩ ⟨tb, false, ib, xb, bb⟩ ha hb W2 (hE.below hb2)
      dsimp only [RV.val] at hc
      obtain ⟨cx, hcx⟩ : ∃ cx, cmpX ⟨ta, false, ia, xa, ba⟩ ⟨tb, false, ib, xb, bb⟩ = cx := ⟨_, rfl⟩
      obtain ⟨ce, hce⟩ : ∃ ce, cmpE ⟨ta, false, ia, xa, ba⟩ ⟨tb, false, ib, xb, bb⟩ = ce := ⟨_, rfl⟩
      rw [hcx, hce] at hc
      have hsv : singleP ⟨ta, false, ia, xa, ba⟩ ⟨tb, false, ib, xb, bb⟩ = (decide (ce = 0) && decide (cx = 0)) := by unfold singleP; rw [hcx, hce]; rfl
      rw [hsv] at hf
      rw [hW2] at hc
      have hf2 : ∀ v w', Value.bool (decide (ce = 0) && decide (cx = 0)) = v → Below W2.heap.size W2 w' → post (.returned v) w' := fun v w' h1 h2 => hf.out v w' h1 (hb2.trans (h2.mono hb2.size))
      rw [hW2] at hf2
      replace hf2 := Lib.hid hf2
      replace hW2 := Lib.hid hW2
      replace hc := Lib.hid hc
      replace hcx := Lib.hid hcx
      replace hce := Lib.hid hce
      clear HP HQ hsv
      go_enter Tryz.func47, Tryz.ntmps47
      go_wp2_with fail
      refine hc.out.mono ?_
      rintro e w3 ⟨rfl, hb3⟩
      clear p0 p1 p2 p3 p4 q0 q1 q2 q3 q4
      by_cases h1 : ce = 0
      · subst h1
        have e1 : (((0 : Nat) : Int) == 0) = true := rfl
        by_cases h2 : cx = 0
        · subst h2
          have hfin := Lib.hid (hf2.out _ w3 rfl hb3)
          have e2 : ((0 : Int) == 0) = true := rfl
          go_wp2_with fail
          exact hfin.out
        · have e2 : (cx == 0) = false := by simp [h2]
          have hfin := Lib.hid (hf2.out (.bool false) w3 (by simp [h2]) hb3)
          replace h2 := Lib.hid h2
          go_wp2_with fail
          exact hfin.out
      · have e1 : ((ce : Int) == 0) = false := by simp [h1]
        have hfin := Lib.hid (hf2.out (.bool false) w3 (by simp [h1]) hb3)
        replace h1 := Lib.hid h1
        go_wp2_with fail
        exact hfin.out
set_option maxHeartbeats 4000000 in
set_option maxRecDepth 100000 in
theorem ranged_any (lo hi : RV) (kind : Nat) (ha : lo.tx.size ≤ 140737488351232) (hb : hi.tx.size ≤ 140737488351232) (w : World) (hE : Env w) : Calls Tryz.prog 48 #[.int .u8 (kind : Int), lo.val, hi.val] w (RPost w (.bool (rangedP kind lo hi))) := by
  generalize hpost : RPost w (.bool (rangedP kind lo hi)) = post
  have hf : ∀ v w', .bool (rangedP kind lo hi) = v → Below w.heap.size w w' → post (.returned v) w' := fun v w' h1 h2 => by rw [← hpost, h1]; exact ⟨rfl, h2⟩
  clear hpost
  replace hf := Lib.hid hf
  obtain ⟨ta, na, ia, xa, ba⟩ := lo
  obtain ⟨tb, nb, ib, xb, bb⟩ := hi
  obtain ⟨W2, hW2⟩ : ∃ W2, W2 = (w.alloc (.cells #[.int .u8 (ta : Int), .bool na, .int .i64 ia, .string xa, .bool ba] 28)).alloc (.cells #[.int .u8 (tb : Int), .bool nb, .int .i64 ib, .string xb, .bool bb] 28) := ⟨_, rfl⟩
  have hb2 : Below w.heap.size w W2 := by rw [hW2]; exact ((Below.refl _ _).alloc (Nat.le_refl _) _).alloc (by simp) _
  have HP := (Has.new w [.int .u8 (ta : Int), .bool na, .int .i64 ia, .string xa, .bool ba] 28).alloc (.cells #[.int .u8 (tb : Int), .bool nb, .int .i64 ib, .string xb, .bool bb] 28)
  have HQ := Has.new (w.alloc (.cells #[.int .u8 (ta : Int), .bool na, .int .i64 ia, .string xa, .bool ba] 28)) [.int .u8 (tb : Int), .bool nb, .int .i64 ib, .string xb, .bool bb] 28
  simp only [World.size_alloc] at HQ
  have p0 := HP.cell (o := 0) rfl
  have p1 := HP.cell (o := 1) rfl
  have p2 := HP.cell (o := 2) rfl
  have p3 := HP.cell (o := 3) rfl
  have p4 := HP.cell (o := 4) rfl
  have q0 := HQ.cell (o := 0) rfl
  have q1 := HQ.cell (o := 1) rfl
  have q2 := HQ.cell (o := 2) rfl
  have q3 := HQ.cell (o := 3) rfl
  have q4 := HQ.cell (o := 4) rfl
  dsimp only [RV.val]
  by_cases hk : kind = 2
  · have hk1 : ((kind : Int) != 2) = false := by simp [hk]
    have hk2 : rangedP kind ⟨ta, na, ia, xa, ba⟩ ⟨tb, nb, ib, xb, bb⟩ = false := by rw [rangedP, decide_eq_false (by omega)]; rfl
    have hfin := Lib.hid (hf.out (.bool false) W2 (congrArg Value.bool hk2) hb2)
    rw [hW2] at hfin
    replace hW2 := Lib.hid hW2
    clear HP HQ
    go_enter Tryz.func48, Tryz.ntmps48
    go_wp2_with fail
    exact hfin.out
  have hk1 : ((kind : Int) != 2) = true := by simp; omega
  by_cases hnn : na = true ∧ nb = true
  · obtain ⟨rfl, rfl⟩ := hnn
    have hk2 : rangedP kind ⟨ta, true, ia, xa, ba⟩ ⟨tb, true, ib, xb, bb⟩ = false := by rw [rangedP, decide_eq_true hk]; rfl
    have hfin := Lib.hid (hf.out (.bool false) W2 (congrArg Value.bool hk2) hb2)
    rw [hW2] at hfin
    replace hW2 := Lib.hid hW2
    clear HP HQ
    go_enter Tryz.func48, Tryz.ntmps48
    go_wp2_with fail
    exact hfin.out
  have hk2 : rangedP kind ⟨ta, na, ia, xa, ba⟩ ⟨tb, nb, ib, xb, bb⟩ = (usableP ⟨ta, na, ia, xa, ba⟩ && usableP ⟨tb, nb, ib, xb, bb⟩) := by
    rw [rangedP, decide_eq_true hk]
    cases na <;> cases nb <;> first | rfl | (exfalso; exact hnn ⟨rfl, rfl⟩)
  rw [hk2] at hf
  clear hk2
  have hu := usable_any ⟨ta, na, ia, xa, ba⟩ ha W2 (hE.below hb2)
  have hv := fun w3 h => usable_any ⟨tb, nb, ib, xb, bb⟩ hb w3 (hE.below (w := w) h)
  dsimp only [RV.val] at hu hv
  generalize usableP ⟨ta, na, ia, xa, ba⟩ = u1 at *
  generalize usableP ⟨tb, nb, ib, xb, bb⟩ = u2 at *
  have hf2 : ∀ v w', Value.bool (u1 && u2) = v → Below W2.heap.size W2 w' → post (.returned v) w' := fun v w' h1 h2 => hf.out v w' h1 (hb2.trans (h2.mono hb2.size))
  have hbt : ∀ w', Below W2.heap.size W2 w' → Below w.heap.size w w' := fun w' h => hb2.trans (h.mono hb2.size)
  have hQx : ∀ w', Below W2.heap.size W2 w' → Has w' (w.heap.size + 1) [.int .u8 (tb : Int), .bool nb, .int .i64 ib, .string xb, .bool bb] 28 := fun w' h => by
    have hq : Has W2 (w.heap.size + 1) [.int .u8 (tb : Int), .bool nb, .int .i64 ib, .string xb, .bool bb] 28 := by rw [hW2]; exact HQ
    exact hq.only (Only.of_below h) (Nat.not_le.2 hq.lt)
  rw [hW2] at hu hf2 hbt hQx
  replace hf2 := Lib.hid hf2
  replace hbt := Lib.hid hbt
  replace hQx := Lib.hid hQx
  replace hW2 := Lib.hid hW2
  replace hu := Lib.hid hu
  replace hv := Lib.hid hv
  replace hk := Lib.hid hk
  clear HP HQ
  have hnb : na = false ∨ nb = false := by cases na <;> cases nb <;> simp_all
  replace hnn := Lib.hid hnn
  cases na <;> cases nb
  · clear hnb
    go_enter Tryz.func48, Tryz.ntmps48
    go_wp2_with fail
    refine hu.out.mono ?_
    rintro e w3 ⟨rfl, hb3⟩
    cases u1 with
    | false =>
      have hfin := Lib.hid (hf2.out (.bool false) w3 rfl hb3)
      clear hb3 p0 p1 p2 p3 p4 q0 q1 q2 q3 q4
      go_wp2_with fail
      exact hfin.out
    | true =>
      have HQ3 := hQx.out w3 hb3
      have hv3 := hv.out w3 (hbt.out w3 hb3)
      have r0 := HQ3.cell (o := 0) rfl
      have r1 := HQ3.cell (o := 1) rfl
      have r2 := HQ3.cell (o := 2) rfl
      have r3 := HQ3.cell (o := 3) rfl
      have r4 := HQ3.cell (o := 4) rfl
      replace hv3 := Lib.hid hv3
      replace hb3 := Lib.hid hb3
      clear p0 p1 p2 p3 p4 q0 q1 q2 q3 q4 HQ3
      go_wp2_with fail
      refine hv3.out.mono ?_
      rintro e w4 ⟨rfl, hb4⟩
      have hfin := Lib.hid (hf2.out (.bool u2) w4 rfl (hb3.out.trans (hb4.mono hb3.out.size)))
      clear hb4 r0 r1 r2 r3 r4
      go_wp2_with fail
      exact hfin.out
  · clear hnb
    go_enter Tryz.func48, Tryz.ntmps48
    go_wp2_with fail
    refine hu.out.mono ?_
    rintro e w3 ⟨rfl, hb3⟩
    cases u1 with
    | false =>
      have hfin := Lib.hid (hf2.out (.bool false) w3 rfl hb3)
      clear hb3 p0 p1 p2 p3 p4 q0 q1 q2 q3 q4
      go_wp2_with fail
      exact hfin.out
    | true =>
      have HQ3 := hQx.out w3 hb3
      have hv3 := hv.out w3 (hbt.out w3 hb3)
      have r0 := HQ3.cell (o := 0) rfl
      have r1 := HQ3.cell (o := 1) rfl
      have r2 := HQ3.cell (o := 2) rfl
      have r3 := HQ3.cell (o := 3) rfl
      have r4 := HQ3.cell (o := 4) rfl
      replace hv3 := Lib.hid hv3
      replace hb3 := Lib.hid hb3
      clear p0 p1 p2 p3 p4 q0 q1 q2 q3 q4 HQ3
      go_wp2_with fail
      refine hv3.out.mono ?_
      rintro e w4 ⟨rfl, hb4⟩
      have hfin := Lib.hid (hf2.out (.bool u2) w4 rfl (hb3.out.trans (hb4.mono hb3.out.size)))
      clear hb4 r0 r1 r2 r3 r4
      go_wp2_with fail
      exact hfin.out
  · clear hnb
    go_enter Tryz.func48, Tryz.ntmps48
    go_wp2_with fail
    refine hu.out.mono ?_
    rintro e w3 ⟨rfl, hb3⟩
    cases u1 with
    | false =>
      have hfin := Lib.hid (hf2.out (.bool false) w3 rfl hb3)
      clear hb3 p0 p1 p2 p3 p4 q0 q1 q2 q3 q4
      go_wp2_with fail
      exact hfin.out
    | true =>
      have HQ3 := hQx.out w3 hb3
      have hv3 := hv.out w3 (hbt.out w3 hb3)
      have r0 := HQ3.cell (o := 0) rfl
      have r1 := HQ3.cell (o := 1) rfl
      have r2 := HQ3.cell (o := 2) rfl
      have r3 := HQ3.cell (o := 3) rfl
      have r4 := HQ3.cell (o := 4) rfl
      replace hv3 := Lib.hid hv3
      replace hb3 := Lib.hid hb3
      clear p0 p1 p2 p3 p4 q0 q1 q2 q3 q4 HQ3
      go_wp2_with fail
      refine hv3.out.mono ?_
      rintro e w4 ⟨rfl, hb4⟩
      have hfin := Lib.hid (hf2.out (.bool u2) w4 rfl (hb3.out.trans (hb4.mono hb3.out.size)))
      clear hb4 r0 r1 r2 r3 r4
      go_wp2_with fail
      exact hfin.out
  · exfalso; rcases hnb with h | h <;> cases h
set_option maxHeartbeats 4000000 in
set_option maxRecDepth 100000 in
theorem ids_any (lo hi : RV)  (w : World) : Calls Tryz.prog 46 #[lo.val, hi.val] w (RPost w (.tuple #[.int .u32 (idsP lo hi).1, .int .u32 (idsP lo hi).2])) := by
  generalize hpost : RPost w (.tuple #[.int .u32 (idsP lo hi).1, .int .u32 (idsP lo hi).2]) = post
  have hf : ∀ v w', .tuple #[.int .u32 (idsP lo hi).1, .int .u32 (idsP lo hi).2] = v → Below w.heap.size w w' → post (.returned v) w' := fun v w' h1 h2 => by rw [← hpost, h1]; exact ⟨rfl, h2⟩
  clear hpost
  replace hf := Lib.hid hf
  obtain ⟨ta, na, ia, xa, ba⟩ := lo
  obtain ⟨tb, nb, ib, xb, bb⟩ := hi
  obtain ⟨W2, hW2⟩ : ∃ W2, W2 = (w.alloc (.cells #[.int .u8 (ta : Int), .bool na, .int .i64 ia, .string xa, .bool ba] 28)).alloc (.cells #[.int .u8 (tb : Int), .bool nb, .int .i64 ib, .string xb, .bool bb] 28) := ⟨_, rfl⟩
  have hb2 : Below w.heap.size w W2 := by rw [hW2]; exact ((Below.refl _ _).alloc (Nat.le_refl _) _).alloc (by simp) _
  have HP := (Has.new w [.int .u8 (ta : Int), .bool na, .int .i64 ia, .string xa, .bool ba] 28).alloc (.cells #[.int .u8 (tb : Int), .bool nb, .int .i64 ib, .string xb, .bool bb] 28)
  have HQ := Has.new (w.alloc (.cells #[.int .u8 (ta : Int), .bool na, .int .i64 ia, .string xa, .bool ba] 28)) [.int .u8 (tb : Int), .bool nb, .int .i64 ib, .string xb, .bool bb] 28
  simp only [World.size_alloc] at HQ
  have p0 := HP.cell (o := 0) rfl
  have p1 := HP.cell (o := 1) rfl
  have p2 := HP.cell (o := 2) rfl
  have p3 := HP.cell (o := 3) rfl
  have p4 := HP.cell (o := 4) rfl
  have q0 := HQ.cell (o := 0) rfl
  have q1 := HQ.cell (o := 1) rfl
  have q2 := HQ.cell (o := 2) rfl
  have q3 := HQ.cell (o := 3) rfl
  have q4 := HQ.cell (o := 4) rfl
  dsimp only [RV.val]
  replace hf := hf.out
  have hfd : firstP ⟨ta, na, ia, xa, ba⟩ = if na = true then 0 else if 0 < ia then ia else 0 := rfl
  have hld : lastP ⟨tb, nb, ib, xb, bb⟩ = if nb = true then 4294967295 else if ib < 4294967295 then ib else 4294967295 := rfl
  have L000 : ∀ (hna : na = true) (hnb : nb = true), Calls Tryz.prog 46 #[.agg #[.int .u8 (ta : Int), .bool na, .int .i64 ia, .string xa, .bool ba], .agg #[.int .u8 (tb : Int), .bool nb, .int .i64 ib, .string xb, .bool bb]] w post := fun hna hnb => by
    have hfi : firstP ⟨ta, na, ia, xa, ba⟩ = 0 := by rw [hfd, hna]; rfl
    have hla : lastP ⟨tb, nb, ib, xb, bb⟩ = 4294967295 := by rw [hld, hnb]; rfl
    clear hfd hld
    have hv : idsP ⟨ta, na, ia, xa, ba⟩ ⟨tb, nb, ib, xb, bb⟩ = (0, 4294967295) := by rw [idsP, hfi, hla]; exact if_neg (by omega)
    have w1 : IntKind.u32.wrap (0) = 0 := by rw [u32_mod]; omega
    have w2 : IntKind.u32.wrap (4294967295) = 4294967295 := by rw [u32_mod]; omega
    have hfin := hf (.tuple #[.int .u32 (0), .int .u32 (4294967295)]) W2 (by rw [hv]) hb2
    rw [hW2] at hfin
    replace hfin := Lib.hid hfin
    replace hv := Lib.hid hv
    replace hfi := Lib.hid hfi
    replace hla := Lib.hid hla
    clear hW2 hb2 hf HP HQ
    subst hna hnb
    go_enter Tryz.func46, Tryz.ntmps46
    go_wp2_with fail
    exact hfin.out
  have L010 : ∀ (hna : na = true) (hnb : nb = false) (h2 : ib < 4294967295) (h3 : 0 ≤ ib), Calls Tryz.prog 46 #[.agg #[.int .u8 (ta : Int), .bool na, .int .i64 ia, .string xa, .bool ba], .agg #[.int .u8 (tb : Int), .bool nb, .int .i64 ib, .string xb, .bool bb]] w post := fun hna hnb h2 h3 => by
    have hfi : firstP ⟨ta, na, ia, xa, ba⟩ = 0 := by rw [hfd, hna]; rfl
    have hla : lastP ⟨tb, nb, ib, xb, bb⟩ = ib := by rw [hld, hnb]; simp [h2]
    clear hfd hld
    have n1 : (if ib < (4294967295 : Int) then ib else 4294967295) = ib := by rw [if_pos h2]
    have n2 : min 4294967295 ib = ib := by omega
    have n3 : decide (ib < (4294967295 : Int)) = true := by simp [h2]
    have g1 : decide (ib < 0) = false := decide_eq_false (by omega)
    have hv : idsP ⟨ta, na, ia, xa, ba⟩ ⟨tb, nb, ib, xb, bb⟩ = (0, ib) := by rw [idsP, hfi, hla]; exact if_neg (by omega)
    have w1 : IntKind.u32.wrap (0) = 0 := by rw [u32_mod]; omega
    have w2 : IntKind.u32.wrap (ib) = ib := by rw [u32_mod]; omega
    have hfin := hf (.tuple #[.int .u32 (0), .int .u32 (ib)]) W2 (by rw [hv]) hb2
    rw [hW2] at hfin
    replace hfin := Lib.hid hfin
    replace hv := Lib.hid hv
    replace hfi := Lib.hid hfi
    replace hla := Lib.hid hla
    clear hW2 hb2 hf HP HQ
    subst hna hnb
    go_enter Tryz.func46, Tryz.ntmps46
    go_wp2_with fail
    exact hfin.out
  have L020 : ∀ (hna : na = true) (hnb : nb = false) (h2 : ib < 4294967295) (h3 : ib < 0), Calls Tryz.prog 46 #[.agg #[.int .u8 (ta : Int), .bool na, .int .i64 ia, .string xa, .bool ba], .agg #[.int .u8 (tb : Int), .bool nb, .int .i64 ib, .string xb, .bool bb]] w post := fun hna hnb h2 h3 => by
    have hfi : firstP ⟨ta, na, ia, xa, ba⟩ = 0 := by rw [hfd, hna]; rfl
    have hla : lastP ⟨tb, nb, ib, xb, bb⟩ = ib := by rw [hld, hnb]; simp [h2]
    clear hfd hld
    have n1 : (if ib < (4294967295 : Int) then ib else 4294967295) = ib := by rw [if_pos h2]
    have n2 : min 4294967295 ib = ib := by omega
    have n3 : decide (ib < (4294967295 : Int)) = true := by simp [h2]
    have g1 : decide (ib < 0) = true := decide_eq_true h3
    have hv : idsP ⟨ta, na, ia, xa, ba⟩ ⟨tb, nb, ib, xb, bb⟩ = (1, 0) := by rw [idsP, hfi, hla]; exact if_pos (by left; omega)
    have hfin := hf (.tuple #[.int .u32 1, .int .u32 0]) W2 (by rw [hv]) hb2
    rw [hW2] at hfin
    replace hfin := Lib.hid hfin
    replace hv := Lib.hid hv
    replace hfi := Lib.hid hfi
    replace hla := Lib.hid hla
    clear hW2 hb2 hf HP HQ
    subst hna hnb
    go_enter Tryz.func46, Tryz.ntmps46
    go_wp2_with fail
    exact hfin.out
  have L030 : ∀ (hna : na = true) (hnb : nb = false) (h2 : ¬ ib < 4294967295), Calls Tryz.prog 46 #[.agg #[.int .u8 (ta : Int), .bool na, .int .i64 ia, .string xa, .bool ba], .agg #[.int .u8 (tb : Int), .bool nb, .int .i64 ib, .string xb, .bool bb]] w post := fun hna hnb h2 => by
    have hfi : firstP ⟨ta, na, ia, xa, ba⟩ = 0 := by rw [hfd, hna]; rfl
    have hla : lastP ⟨tb, nb, ib, xb, bb⟩ = 4294967295 := by rw [hld, hnb]; simp [h2]
    clear hfd hld
    have n1 : (if ib < (4294967295 : Int) then ib else 4294967295) = 4294967295 := by rw [if_neg h2]
    have n2 : min 4294967295 ib = 4294967295 := by omega
    have n3 : decide (ib < (4294967295 : Int)) = false := by simp [h2]
    have hv : idsP ⟨ta, na, ia, xa, ba⟩ ⟨tb, nb, ib, xb, bb⟩ = (0, 4294967295) := by rw [idsP, hfi, hla]; exact if_neg (by omega)
    have w1 : IntKind.u32.wrap (0) = 0 := by rw [u32_mod]; omega
    have w2 : IntKind.u32.wrap (4294967295) = 4294967295 := by rw [u32_mod]; omega
    have hfin := hf (.tuple #[.int .u32 (0), .int .u32 (4294967295)]) W2 (by rw [hv]) hb2
    rw [hW2] at hfin
    replace hfin := Lib.hid hfin
    replace hv := Lib.hid hv
    replace hfi := Lib.hid hfi
    replace hla := Lib.hid hla
    clear hW2 hb2 hf HP HQ
    subst hna hnb
    go_enter Tryz.func46, Tryz.ntmps46
    go_wp2_with fail
    exact hfin.out
  have L100 : ∀ (hna : na = false) (h1 : 0 < ia) (hnb : nb = true) (h4 : ¬ 4294967295 < ia), Calls Tryz.prog 46 #[.agg #[.int .u8 (ta : Int), .bool na, .int .i64 ia, .string xa, .bool ba], .agg #[.int .u8 (tb : Int), .bool nb, .int .i64 ib, .string xb, .bool bb]] w post := fun hna h1 hnb h4 => by
    have hfi : firstP ⟨ta, na, ia, xa, ba⟩ = ia := by rw [hfd, hna]; simp [h1]
    have hla : lastP ⟨tb, nb, ib, xb, bb⟩ = 4294967295 := by rw [hld, hnb]; rfl
    clear hfd hld
    have m1 : (if (0 : Int) < ia then ia else 0) = ia := by rw [if_pos h1]
    have m2 : max 0 ia = ia := by omega
    have m3 : decide ((0 : Int) < ia) = true := by simp [h1]
    have m4 : decide (ia > (0 : Int)) = true := m3
    have g2 : decide ((4294967295 : Int) < ia) = false := decide_eq_false h4
    have hv : idsP ⟨ta, na, ia, xa, ba⟩ ⟨tb, nb, ib, xb, bb⟩ = (ia, 4294967295) := by rw [idsP, hfi, hla]; exact if_neg (by omega)
    have w1 : IntKind.u32.wrap (ia) = ia := by rw [u32_mod]; omega
    have w2 : IntKind.u32.wrap (4294967295) = 4294967295 := by rw [u32_mod]; omega
    have hfin := hf (.tuple #[.int .u32 (ia), .int .u32 (4294967295)]) W2 (by rw [hv]) hb2
    rw [hW2] at hfin
    replace hfin := Lib.hid hfin
    replace hv := Lib.hid hv
    replace hfi := Lib.hid hfi
    replace hla := Lib.hid hla
    clear hW2 hb2 hf HP HQ
    subst hna hnb
    go_enter Tryz.func46, Tryz.ntmps46
    go_wp2_with fail
    exact hfin.out
  have L101 : ∀ (hna : na = false) (h1 : 0 < ia) (hnb : nb = true) (h4 : 4294967295 < ia), Calls Tryz.prog 46 #[.agg #[.int .u8 (ta : Int), .bool na, .int .i64 ia, .string xa, .bool ba], .agg #[.int .u8 (tb : Int), .bool nb, .int .i64 ib, .string xb, .bool bb]] w post := fun hna h1 hnb h4 => by
    have hfi : firstP ⟨ta, na, ia, xa, ba⟩ = ia := by rw [hfd, hna]; simp [h1]
    have hla : lastP ⟨tb, nb, ib, xb, bb⟩ = 4294967295 := by rw [hld, hnb]; rfl
    clear hfd hld
    have m1 : (if (0 : Int) < ia then ia else 0) = ia := by rw [if_pos h1]
    have m2 : max 0 ia = ia := by omega
    have m3 : decide ((0 : Int) < ia) = true := by simp [h1]
    have m4 : decide (ia > (0 : Int)) = true := m3
    have g2 : decide ((4294967295 : Int) < ia) = true := decide_eq_true h4
    have hv : idsP ⟨ta, na, ia, xa, ba⟩ ⟨tb, nb, ib, xb, bb⟩ = (1, 0) := by rw [idsP, hfi, hla]; exact if_pos (by right; omega)
    have hfin := hf (.tuple #[.int .u32 1, .int .u32 0]) W2 (by rw [hv]) hb2
    rw [hW2] at hfin
    replace hfin := Lib.hid hfin
    replace hv := Lib.hid hv
    replace hfi := Lib.hid hfi
    replace hla := Lib.hid hla
    clear hW2 hb2 hf HP HQ
    subst hna hnb
    go_enter Tryz.func46, Tryz.ntmps46
    go_wp2_with fail
    exact hfin.out
  have L110 : ∀ (hna : na = false) (h1 : 0 < ia) (hnb : nb = false) (h2 : ib < 4294967295) (h3 : 0 ≤ ib) (h4 : ¬ 4294967295 < ia), Calls Tryz.prog 46 #[.agg #[.int .u8 (ta : Int), .bool na, .int .i64 ia, .string xa, .bool ba], .agg #[.int .u8 (tb : Int), .bool nb, .int .i64 ib, .string xb, .bool bb]] w post := fun hna h1 hnb h2 h3 h4 => by
    have hfi : firstP ⟨ta, na, ia, xa, ba⟩ = ia := by rw [hfd, hna]; simp [h1]
    have hla : lastP ⟨tb, nb, ib, xb, bb⟩ = ib := by rw [hld, hnb]; simp [h2]
    clear hfd hld
    have m1 : (if (0 : Int) < ia then ia else 0) = ia := by rw [if_pos h1]
    have m2 : max 0 ia = ia := by omega
    have m3 : decide ((0 : Int) < ia) = true := by simp [h1]
    have m4 : decide (ia > (0 : Int)) = true := m3
    have n1 : (if ib < (4294967295 : Int) then ib else 4294967295) = ib := by rw [if_pos h2]
    have n2 : min 4294967295 ib = ib := by omega
    have n3 : decide (ib < (4294967295 : Int)) = true := by simp [h2]
    have g1 : decide (ib < 0) = false := decide_eq_false (by omega)
    have g2 : decide ((4294967295 : Int) < ia) = false := decide_eq_false h4
    have hv : idsP ⟨ta, na, ia, xa, ba⟩ ⟨tb, nb, ib, xb, bb⟩ = (ia, ib) := by rw [idsP, hfi, hla]; exact if_neg (by omega)
    have w1 : IntKind.u32.wrap (ia) = ia := by rw [u32_mod]; omega
    have w2 : IntKind.u32.wrap (ib) = ib := by rw [u32_mod]; omega
    have hfin := hf (.tuple #[.int .u32 (ia), .int .u32 (ib)]) W2 (by rw [hv]) hb2
    rw [hW2] at hfin
    replace hfin := Lib.hid hfin
    replace hv := Lib.hid hv
    replace hfi := Lib.hid hfi
    replace hla := Lib.hid hla
    clear hW2 hb2 hf HP HQ
    subst hna hnb
    go_enter Tryz.func46, Tryz.ntmps46
    go_wp2_with fail
    exact hfin.out
  have L111 : ∀ (hna : na = false) (h1 : 0 < ia) (hnb : nb = false) (h2 : ib < 4294967295) (h3 : 0 ≤ ib) (h4 : 4294967295 < ia), Calls Tryz.prog 46 #[.agg #[.int .u8 (ta : Int), .bool na, .int .i64 ia, .string xa, .bool ba], .agg #[.int .u8 (tb : Int), .bool nb, .int .i64 ib, .string xb, .bool bb]] w post := fun hna h1 hnb h2 h3 h4 => by
    have hfi : firstP ⟨ta, na, ia, xa, ba⟩ = ia := by rw [hfd, hna]; simp [h1]
    have hla : lastP ⟨tb, nb, ib, xb, bb⟩ = ib := by rw [hld, hnb]; simp [h2]
    clear hfd hld
    have m1 : (if (0 : Int) < ia then ia else 0) = ia := by rw [if_pos h1]
    have m2 : max 0 ia = ia := by omega
    have m3 : decide ((0 : Int) < ia) = true := by simp [h1]
    have m4 : decide (ia > (0 : Int)) = true := m3
    have n1 : (if ib < (4294967295 : Int) then ib else 4294967295) = ib := by rw [if_pos h2]
    have n2 : min 4294967295 ib = ib := by omega
    have n3 : decide (ib < (4294967295 : Int)) = true := by simp [h2]
    have g1 : decide (ib < 0) = false := decide_eq_false (by omega)
    have g2 : decide ((4294967295 : Int) < ia) = true := decide_eq_true h4
    have hv : idsP ⟨ta, na, ia, xa, ba⟩ ⟨tb, nb, ib, xb, bb⟩ = (1, 0) := by rw [idsP, hfi, hla]; exact if_pos (by right; omega)
    have hfin := hf (.tuple #[.int .u32 1, .int .u32 0]) W2 (by rw [hv]) hb2
    rw [hW2] at hfin
    replace hfin := Lib.hid hfin
    replace hv := Lib.hid hv
    replace hfi := Lib.hid hfi
    replace hla := Lib.hid hla
    clear hW2 hb2 hf HP HQ
    subst hna hnb
    go_enter Tryz.func46, Tryz.ntmps46
    go_wp2_with fail
    exact hfin.out
  have L12 : ∀ (hna : na = false) (h1 : 0 < ia) (hnb : nb = false) (h2 : ib < 4294967295) (h3 : ib < 0), Calls Tryz.prog 46 #[.agg #[.int .u8 (ta : Int), .bool na, .int .i64 ia, .string xa, .bool ba], .agg #[.int .u8 (tb : Int), .bool nb, .int .i64 ib, .string xb, .bool bb]] w post := fun hna h1 hnb h2 h3 => by
    have hfi : firstP ⟨ta, na, ia, xa, ba⟩ = ia := by rw [hfd, hna]; simp [h1]
    have hla : lastP ⟨tb, nb, ib, xb, bb⟩ = ib := by rw [hld, hnb]; simp [h2]
    clear hfd hld
    have m1 : (if (0 : Int) < ia then ia else 0) = ia := by rw [if_pos h1]
    have m2 : max 0 ia = ia := by omega
    have m3 : decide ((0 : Int) < ia) = true := by simp [h1]
    have m4 : decide (ia > (0 : Int)) = true := m3
    have n1 : (if ib < (4294967295 : Int) then ib else 4294967295) = ib := by rw [if_pos h2]
    have n2 : min 4294967295 ib = ib := by omega
    have n3 : decide (ib < (4294967295 : Int)) = true := by simp [h2]
    have g1 : decide (ib < 0) = true := decide_eq_true h3
    have hv : idsP ⟨ta, na, ia, xa, ba⟩ ⟨tb, nb, ib, xb, bb⟩ = (1, 0) := by rw [idsP, hfi, hla]; exact if_pos (by left; omega)
    have hfin := hf (.tuple #[.int .u32 1, .int .u32 0]) W2 (by rw [hv]) hb2
    rw [hW2] at hfin
    replace hfin := Lib.hid hfin
    replace hv := Lib.hid hv
    replace hfi := Lib.hid hfi
    replace hla := Lib.hid hla
    clear hW2 hb2 hf HP HQ
    subst hna hnb
    go_enter Tryz.func46, Tryz.ntmps46
    go_wp2_with fail
    exact hfin.out
  have L130 : ∀ (hna : na = false) (h1 : 0 < ia) (hnb : nb = false) (h2 : ¬ ib < 4294967295) (h4 : ¬ 4294967295 < ia), Calls Tryz.prog 46 #[.agg #[.int .u8 (ta : Int), .bool na, .int .i64 ia, .string xa, .bool ba], .agg #[.int .u8 (tb : Int), .bool nb, .int .i64 ib, .string xb, .bool bb]] w post := fun hna h1 hnb h2 h4 => by
    have hfi : firstP ⟨ta, na, ia, xa, ba⟩ = ia := by rw [hfd, hna]; simp [h1]
    have hla : lastP ⟨tb, nb, ib, xb, bb⟩ = 4294967295 := by rw [hld, hnb]; simp [h2]
    clear hfd hld
    have m1 : (if (0 : Int) < ia then ia else 0) = ia := by rw [if_pos h1]
    have m2 : max 0 ia = ia := by omega
    have m3 : decide ((0 : Int) < ia) = true := by simp [h1]
    have m4 : decide (ia > (0 : Int)) = true := m3
    have n1 : (if ib < (4294967295 : Int) then ib else 4294967295) = 4294967295 := by rw [if_neg h2]
    have n2 : min 4294967295 ib = 4294967295 := by omega
    have n3 : decide (ib < (4294967295 : Int)) = false := by simp [h2]
    have g2 : decide ((4294967295 : Int) < ia) = false := decide_eq_false h4
    have hv : idsP ⟨ta, na, ia, xa, ba⟩ ⟨tb, nb, ib, xb, bb⟩ = (ia, 4294967295) := by rw [idsP, hfi, hla]; exact if_neg (by omega)
    have w1 : IntKind.u32.wrap (ia) = ia := by rw [u32_mod]; omega
    have w2 : IntKind.u32.wrap (4294967295) = 4294967295 := by rw [u32_mod]; omega
    have hfin := hf (.tuple #[.int .u32 (ia), .int .u32 (4294967295)]) W2 (by rw [hv]) hb2
    rw [hW2] at hfin
    replace hfin := Lib.hid hfin
    replace hv := Lib.hid hv
    replace hfi := Lib.hid hfi
    replace hla := Lib.hid hla
    clear hW2 hb2 hf HP HQ
    subst hna hnb
    go_enter Tryz.func46, Tryz.ntmps46
    go_wp2_with fail
    exact hfin.out
  have L131 : ∀ (hna : na = false) (h1 : 0 < ia) (hnb : nb = false) (h2 : ¬ ib < 4294967295) (h4 : 4294967295 < ia), Calls Tryz.prog 46 #[.agg #[.int .u8 (ta : Int), .bool na, .int .i64 ia, .string xa, .bool ba], .agg #[.int .u8 (tb : Int), .bool nb, .int .i64 ib, .string xb, .bool bb]] w post := fun hna h1 hnb h2 h4 => by
    have hfi : firstP ⟨ta, na, ia, xa, ba⟩ = ia := by rw [hfd, hna]; simp [h1]
    have hla : lastP ⟨tb, nb, ib, xb, bb⟩ = 4294967295 := by rw [hld, hnb]; simp [h2]
    clear hfd hld
    have m1 : (if (0 : Int) < ia then ia else 0) = ia := by rw [if_pos h1]
    have m2 : max 0 ia = ia := by omega
    have m3 : decide ((0 : Int) < ia) = true := by simp [h1]
    have m4 : decide (ia > (0 : Int)) = true := m3
    have n1 : (if ib < (4294967295 : Int) then ib else 4294967295) = 4294967295 := by rw [if_neg h2]
    have n2 : min 4294967295 ib = 4294967295 := by omega
    have n3 : decide (ib < (4294967295 : Int)) = false := by simp [h2]
    have g2 : decide ((4294967295 : Int) < ia) = true := decide_eq_true h4
    have hv : idsP ⟨ta, na, ia, xa, ba⟩ ⟨tb, nb, ib, xb, bb⟩ = (1, 0) := by rw [idsP, hfi, hla]; exact if_pos (by right; omega)
    have hfin := hf (.tuple #[.int .u32 1, .int .u32 0]) W2 (by rw [hv]) hb2
    rw [hW2] at hfin
    replace hfin := Lib.hid hfin
    replace hv := Lib.hid hv
    replace hfi := Lib.hid hfi
    replace hla := Lib.hid hla
    clear hW2 hb2 hf HP HQ
    subst hna hnb
    go_enter Tryz.func46, Tryz.ntmps46
    go_wp2_with fail
    exact hfin.out
  have L200 : ∀ (hna : na = false) (h1 : ¬ 0 < ia) (hnb : nb = true), Calls Tryz.prog 46 #[.agg #[.int .u8 (ta : Int), .bool na, .int .i64 ia, .string xa, .bool ba], .agg #[.int .u8 (tb : Int), .bool nb, .int .i64 ib, .string xb, .bool bb]] w post := fun hna h1 hnb => by
    have hfi : firstP ⟨ta, na, ia, xa, ba⟩ = 0 := by rw [hfd, hna]; simp [h1]
    have hla : lastP ⟨tb, nb, ib, xb, bb⟩ = 4294967295 := by rw [hld, hnb]; rfl
    clear hfd hld
    have m1 : (if (0 : Int) < ia then ia else 0) = 0 := by rw [if_neg h1]
    have m2 : max 0 ia = 0 := by omega
    have m3 : decide ((0 : Int) < ia) = false := by simp [h1]
    have m4 : decide (ia > (0 : Int)) = false := m3
    have hv : idsP ⟨ta, na, ia, xa, ba⟩ ⟨tb, nb, ib, xb, bb⟩ = (0, 4294967295) := by rw [idsP, hfi, hla]; exact if_neg (by omega)
    have w1 : IntKind.u32.wrap (0) = 0 := by rw [u32_mod]; omega
    have w2 : IntKind.u32.wrap (4294967295) = 4294967295 := by rw [u32_mod]; omega
    have hfin := hf (.tuple #[.int .u32 (0), .int .u32 (4294967295)]) W2 (by rw [hv]) hb2
    rw [hW2] at hfin
    replace hfin := Lib.hid hfin
    replace hv := Lib.hid hv
    replace hfi := Lib.hid hfi
    replace hla := Lib.hid hla
    clear hW2 hb2 hf HP HQ
    subst hna hnb
    go_enter Tryz.func46, Tryz.ntmps46
    go_wp2_with fail
    exact hfin.out
  have L210 : ∀ (hna : na = false) (h1 : ¬ 0 < ia) (hnb : nb = false) (h2 : ib < 4294967295) (h3 : 0 ≤ ib), Calls Tryz.prog 46 #[.agg #[.int .u8 (ta : Int), .bool na, .int .i64 ia, .string xa, .bool ba], .agg #[.int .u8 (tb : Int), .bool nb, .int .i64 ib, .string xb, .bool bb]] w post := fun hna h1 hnb h2 h3 => by
    have hfi : firstP ⟨ta, na, ia, xa, ba⟩ = 0 := by rw [hfd, hna]; simp [h1]
    have hla : lastP ⟨tb, nb, ib, xb, bb⟩ = ib := by rw [hld, hnb]; simp [h2]
    clear hfd hld
    have m1 : (if (0 : Int) < ia then ia else 0) = 0 := by rw [if_neg h1]
    have m2 : max 0 ia = 0 := by omega
    have m3 : decide ((0 : Int) < ia) = false := by simp [h1]
    have m4 : decide (ia > (0 : Int)) = false := m3
    have n1 : (if ib < (4294967295 : Int) then ib else 4294967295) = ib := by rw [if_pos h2]
    have n2 : min 4294967295 ib = ib := by omega
    have n3 : decide (ib < (4294967295 : Int)) = true := by simp [h2]
    have g1 : decide (ib < 0) = false := decide_eq_false (by omega)
    have hv : idsP ⟨ta, na, ia, xa, ba⟩ ⟨tb, nb, ib, xb, bb⟩ = (0, ib) := by rw [idsP, hfi, hla]; exact if_neg (by omega)
    have w1 : IntKind.u32.wrap (0) = 0 := by rw [u32_mod]; omega
    have w2 : IntKind.u32.wrap (ib) = ib := by rw [u32_mod]; omega
    have hfin := hf (.tuple #[.int .u32 (0), .int .u32 (ib)]) W2 (by rw [hv]) hb2
    rw [hW2] at hfin
    replace hfin := Lib.hid hfin
    replace hv := Lib.hid hv
    replace hfi := Lib.hid hfi
    replace hla := Lib.hid hla
    clear hW2 hb2 hf HP HQ
    subst hna hnb
    go_enter Tryz.func46, Tryz.ntmps46
    go_wp2_with fail
    exact hfin.out
  have L220 : ∀ (hna : na = false) (h1 : ¬ 0 < ia) (hnb : nb = false) (h2 : ib < 4294967295) (h3 : ib < 0), Calls Tryz.prog 46 #[.agg #[.int .u8 (ta : Int), .bool na, .int .i64 ia, .string xa, .bool ba], .agg #[.int .u8 (tb : Int), .bool nb, .int .i64 ib, .string xb, .bool bb]] w post := fun hna h1 hnb h2 h3 => by
    have hfi : firstP ⟨ta, na, ia, xa, ba⟩ = 0 := by rw [hfd, hna]; simp [h1]
    have hla : lastP ⟨tb, nb, ib, xb, bb⟩ = ib := by rw [hld, hnb]; simp [h2]
    clear hfd hld
    have m1 : (if (0 : Int) < ia then ia else 0) = 0 := by rw [if_neg h1]
    have m2 : max 0 ia = 0 := by omega
    have m3 : decide ((0 : Int) < ia) = false := by simp [h1]
    have m4 : decide (ia > (0 : Int)) = false := m3
    have n1 : (if ib < (4294967295 : Int) then ib else 4294967295) = ib := by rw [if_pos h2]
    have n2 : min 4294967295 ib = ib := by omega
    have n3 : decide (ib < (4294967295 : Int)) = true := by simp [h2]
    have g1 : decide (ib < 0) = true := decide_eq_true h3
    have hv : idsP ⟨ta, na, ia, xa, ba⟩ ⟨tb, nb, ib, xb, bb⟩ = (1, 0) := by rw [idsP, hfi, hla]; exact if_pos (by left; omega)
    have hfin := hf (.tuple #[.int .u32 1, .int .u32 0]) W2 (by rw [hv]) hb2
    rw [hW2] at hfin
    replace hfin := Lib.hid hfin
    replace hv := Lib.hid hv
    replace hfi := Lib.hid hfi
    replace hla := Lib.hid hla
    clear hW2 hb2 hf HP HQ
    subst hna hnb
    go_enter Tryz.func46, Tryz.ntmps46
    go_wp2_with fail
    exact hfin.out
  have L230 : ∀ (hna : na = false) (h1 : ¬ 0 < ia) (hnb : nb = false) (h2 : ¬ ib < 4294967295), Calls Tryz.prog 46 #[.agg #[.int .u8 (ta : Int), .bool na, .int .i64 ia, .string xa, .bool ba], .agg #[.int .u8 (tb : Int), .bool nb, .int .i64 ib, .string xb, .bool bb]] w post := fun hna h1 hnb h2 => by
    have hfi : firstP ⟨ta, na, ia, xa, ba⟩ = 0 := by rw [hfd, hna]; simp [h1]
    have hla : lastP ⟨tb, nb, ib, xb, bb⟩ = 4294967295 := by rw [hld, hnb]; simp [h2]
    clear hfd hld
    have m1 : (if (0 : Int) < ia then ia else 0) = 0 := by rw [if_neg h1]
    have m2 : max 0 ia = 0 := by omega
    have m3 : decide ((0 : Int) < ia) = false := by simp [h1]
    have m4 : decide (ia > (0 : Int)) = false := m3
    have n1 : (if ib < (4294967295 : Int) then ib else 4294967295) = 4294967295 := by rw [if_neg h2]
    have n2 : min 4294967295 ib = 4294967295 := by omega
    have n3 : decide (ib < (4294967295 : Int)) = false := by simp [h2]
    have hv : idsP ⟨ta, na, ia, xa, ba⟩ ⟨tb, nb, ib, xb, bb⟩ = (0, 4294967295) := by rw [idsP, hfi, hla]; exact if_neg (by omega)
    have w1 : IntKind.u32.wrap (0) = 0 := by rw [u32_mod]; omega
    have w2 : IntKind.u32.wrap (4294967295) = 4294967295 := by rw [u32_mod]; omega
    have hfin := hf (.tuple #[.int .u32 (0), .int .u32 (4294967295)]) W2 (by rw [hv]) hb2
    rw [hW2] at hfin
    replace hfin := Lib.hid hfin
    replace hv := Lib.hid hv
    replace hfi := Lib.hid hfi
    replace hla := Lib.hid hla
    clear hW2 hb2 hf HP HQ
    subst hna hnb
    go_enter Tryz.func46, Tryz.ntmps46
    go_wp2_with fail
    exact hfin.out
  by_cases hna : na = true
  · skip
    by_cases hnb : nb = true
    · exact L000 hna hnb
    · replace hnb : nb = false := by simpa using hnb
      by_cases h2 : ib < 4294967295
      · by_cases h3 : 0 ≤ ib
        · exact L010 hna hnb h2 h3
        · exact L020 hna hnb h2 (by omega)
      · exact L030 hna hnb h2
  · replace hna : na = false := by simpa using hna
    by_cases h1 : 0 < ia
    · by_cases h4 : 4294967295 < ia
      · by_cases hnb : nb = true
        · exact L101 hna h1 hnb h4
        · replace hnb : nb = false := by simpa using hnb
          by_cases h2 : ib < 4294967295
          · by_cases h3 : 0 ≤ ib
            · exact L111 hna h1 hnb h2 h3 h4
            · exact L12 hna h1 hnb h2 (by omega)
          · exact L131 hna h1 hnb h2 h4
      · by_cases hnb : nb = true
        · exact L100 hna h1 hnb h4
        · replace hnb : nb = false := by simpa using hnb
          by_cases h2 : ib < 4294967295
          · by_cases h3 : 0 ≤ ib
            · exact L110 hna h1 hnb h2 h3 h4
            · exact L12 hna h1 hnb h2 (by omega)
          · exact L130 hna h1 hnb h2 h4
    · skip
      by_cases hnb : nb = true
      · exact L200 hna h1 hnb
      · replace hnb : nb = false := by simpa using hnb
        by_cases h2 : ib < 4294967295
        · by_cases h3 : 0 ≤ ib
          · exact L210 hna h1 hnb h2 h3
          · exact L220 hna h1 hnb h2 (by omega)
        · exact L230 hna h1 hnb h2
end Go.Proofs.YtgnoikfmhncbmaaGreatDoor
