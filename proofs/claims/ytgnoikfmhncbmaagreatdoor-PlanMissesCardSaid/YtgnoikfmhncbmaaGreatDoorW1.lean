/- Walks: within. -/
import Derived.Test.YtgnoikfmhncbmaaGreatDoorB1
set_option linter.unusedVariables false
set_option linter.unusedSimpArgs false
namespace Go.Proofs.YtgnoikfmhncbmaaGreatDoor
open Go.RowKit
/-- A value lies between two bounds. -/
def withinP (v lo hi : RV) : Bool := !v.nl && (lo.nl || (decide (cmpE lo v = 0) && decide (cmpX lo v ≤ 0))) && (hi.nl || (decide (cmpE v hi = 0) && decide (cmpX v hi ≤ 0)))
/-- A bound is none, or a valid value. -/
def okB (v : RV) : Bool := v.nl || decide (cmpE v v = 0)
set_option maxHeartbeats 8000000 in
set_option maxRecDepth 100000 in
theorem within_any (v lo hi : RV) (hv : v.tx.size ≤ 140737488351232) (ha : lo.tx.size ≤ 140737488351232) (hb : hi.tx.size ≤ 140737488351232) (w : World) (hE : Env w) : Calls Tryz.prog 21 #[v.val, lo.val, hi.val] w (RPost w (.bool (withinP v lo hi))) := by
  generalize hpost : RPost w (.bool (withinP v lo hi)) = post
  have hf : ∀ r w', withinP v lo hi = r → Below w.heap.size w w' → post (.returned (.bool r)) w' := fun r w' h1 h2 => by rw [← hpost, h1]; exact ⟨rfl, h2⟩
  clear hpost
  replace hf := Lib.hid hf
  obtain ⟨tv, nv, iv, xv, bv⟩ := v
  obtain ⟨ta, na, ia, xa, ba⟩ := lo
  obtain ⟨tb, nb, ib, xb, bb⟩ := hi
  dsimp only [RV.val]
  obtain ⟨W1, hW1⟩ : ∃ W1, W1 = ((w.alloc (.cells #[.int .u8 (tv : Int), .bool nv, .int .i64 iv, .string xv, .bool bv] 28)).alloc (.cells #[.int .u8 (ta : Int), .bool na, .int .i64 ia, .string xa, .bool ba] 28)).alloc (.cells #[.int .u8 (tb : Int), .bool nb, .int .i64 ib, .string xb, .bool bb] 28) := ⟨_, rfl⟩
  have hb1 : Below w.heap.size w W1 := by rw [hW1]; exact (((Below.refl _ _).alloc (Nat.le_refl _) _).alloc (by simp) _).alloc (by simp; omega) _
  have HV : Has W1 w.heap.size [.int .u8 (tv : Int), .bool nv, .int .i64 iv, .string xv, .bool bv] 28 := by rw [hW1]; exact ((Has.new w _ _).alloc _).alloc _
  have HL : Has W1 (w.heap.size + 1) [.int .u8 (ta : Int), .bool na, .int .i64 ia, .string xa, .bool ba] 28 := by rw [hW1]; have h := Has.new (w.alloc (.cells #[.int .u8 (tv : Int), .bool nv, .int .i64 iv, .string xv, .bool bv] 28)) [.int .u8 (ta : Int), .bool na, .int .i64 ia, .string xa, .bool ba] 28; simp only [World.size_alloc] at h; exact h.alloc _
  have HH : Has W1 (w.heap.size + 1 + 1) [.int .u8 (tb : Int), .bool nb, .int .i64 ib, .string xb, .bool bb] 28 := by rw [hW1]; have h := Has.new ((w.alloc (.cells #[.int .u8 (tv : Int), .bool nv, .int .i64 iv, .string xv, .bool bv] 28)).alloc (.cells #[.int .u8 (ta : Int), .bool na, .int .i64 ia, .string xa, .bool ba] 28)) [.int .u8 (tb : Int), .bool nb, .int .i64 ib, .string xb, .bool bb] 28; simp only [World.size_alloc] at h; exact h
  replace hW1 := Lib.hid hW1.symm
  have hc1 := cmp_c ⟨ta, na, ia, xa, ba⟩ ⟨tv, nv, iv, xv, bv⟩ ha hv W1 (hE.below hb1)
  dsimp only [RV.val] at hc1
  have hc2 := fun wx (hx : Below w.heap.size w wx) => cmp_c ⟨tv, nv, iv, xv, bv⟩ ⟨tb, nb, ib, xb, bb⟩ hv hb wx (hE.below hx)
  dsimp only [RV.val] at hc2
  obtain ⟨c1, hc1_⟩ : ∃ z, cmpX ⟨ta, na, ia, xa, ba⟩ ⟨tv, nv, iv, xv, bv⟩ = z := ⟨_, rfl⟩
  obtain ⟨e1, he1_⟩ : ∃ z, cmpE ⟨ta, na, ia, xa, ba⟩ ⟨tv, nv, iv, xv, bv⟩ = z := ⟨_, rfl⟩
  obtain ⟨c2, hc2_⟩ : ∃ z, cmpX ⟨tv, nv, iv, xv, bv⟩ ⟨tb, nb, ib, xb, bb⟩ = z := ⟨_, rfl⟩
  obtain ⟨e2, he2_⟩ : ∃ z, cmpE ⟨tv, nv, iv, xv, bv⟩ ⟨tb, nb, ib, xb, bb⟩ = z := ⟨_, rfl⟩
  have hX : withinP ⟨tv, nv, iv, xv, bv⟩ ⟨ta, na, ia, xa, ba⟩ ⟨tb, nb, ib, xb, bb⟩ = (!nv && (na || (decide (e1 = 0) && decide (c1 ≤ 0))) && (nb || (decide (e2 = 0) && decide (c2 ≤ 0)))) := by subst hc1_ hc2_ he1_ he2_; rfl
  rw [hc1_, he1_] at hc1
  simp only [hc2_, he2_] at hc2
  replace hf := hf.out
  rw [hX] at hf
  clear hc1_ he1_ hc2_ he2_ hX
  replace hf := Lib.hid hf
  replace hc1 := Lib.hid hc1
  replace hc2 := Lib.hid hc2
  have cv0 := HV.cell (o := 0) rfl
  have cv1 := HV.cell (o := 1) rfl
  have cv2 := HV.cell (o := 2) rfl
  have cv3 := HV.cell (o := 3) rfl
  have cv4 := HV.cell (o := 4) rfl
  have ca0 := HL.cell (o := 0) rfl
  have ca1 := HL.cell (o := 1) rfl
  have ca2 := HL.cell (o := 2) rfl
  have ca3 := HL.cell (o := 3) rfl
  have ca4 := HL.cell (o := 4) rfl
  have cb0 := HH.cell (o := 0) rfl
  have cb1 := HH.cell (o := 1) rfl
  have cb2 := HH.cell (o := 2) rfl
  have cb3 := HH.cell (o := 3) rfl
  have cb4 := HH.cell (o := 4) rfl
  replace HV := Lib.hid HV
  replace HL := Lib.hid HL
  replace HH := Lib.hid HH
  replace hb1 := Lib.hid hb1
  go_enter Tryz.func21, Tryz.ntmps21
  go_upto_region 1 with fail
  rw [hW1.out]
  go_wp2_with fail
  refine hc1.out.mono ?_
  rintro e w2 ⟨rfl, hb2⟩
  clear cv0 cv1 cv2 cv3 cv4 ca0 ca1 ca2 ca3 ca4 cb0 cb1 cb2 cb3 cb4
  replace HV := HV.out.only (Only.of_below hb2) (Nat.not_le.2 HV.out.lt)
  replace HL := HL.out.only (Only.of_below hb2) (Nat.not_le.2 HL.out.lt)
  replace HH := HH.out.only (Only.of_below hb2) (Nat.not_le.2 HH.out.lt)
  have hb02 := hb1.out.trans (hb2.mono hb1.out.size)
  have hc22 := Lib.hid (hc2.out w2 hb02)
  clear hb2
  have cv0 := HV.cell (o := 0) rfl
  have cv1 := HV.cell (o := 1) rfl
  have cv2 := HV.cell (o := 2) rfl
  have cv3 := HV.cell (o := 3) rfl
  have cv4 := HV.cell (o := 4) rfl
  have ca0 := HL.cell (o := 0) rfl
  have ca1 := HL.cell (o := 1) rfl
  have ca2 := HL.cell (o := 2) rfl
  have ca3 := HL.cell (o := 3) rfl
  have ca4 := HL.cell (o := 4) rfl
  have cb0 := HH.cell (o := 0) rfl
  have cb1 := HH.cell (o := 1) rfl
  have cb2 := HH.cell (o := 2) rfl
  have cb3 := HH.cell (o := 3) rfl
  have cb4 := HH.cell (o := 4) rfl
  replace HV := Lib.hid HV
  replace HL := Lib.hid HL
  replace HH := Lib.hid HH
  replace hb02 := Lib.hid hb02
  go_wp2_with fail
  refine hc22.out.mono ?_
  rintro e w3 ⟨rfl, hb3⟩
  clear cv0 cv1 cv2 cv3 cv4 ca0 ca1 ca2 ca3 ca4 cb0 cb1 cb2 cb3 cb4
  replace HV := HV.out.only (Only.of_below hb3) (Nat.not_le.2 HV.out.lt)
  replace HL := HL.out.only (Only.of_below hb3) (Nat.not_le.2 HL.out.lt)
  replace HH := HH.out.only (Only.of_below hb3) (Nat.not_le.2 HH.out.lt)
  have hb03 := hb02.out.trans (hb3.mono hb02.out.size)
  clear hb3
  have cv1 := HV.cell (o := 1) rfl
  have ca1 := HL.cell (o := 1) rfl
  have cb1 := HH.cell (o := 1) rfl
  clear HV HL HH hc1 hc2 hc22 hb1 hb02 hW1
  replace hb03 := Lib.hid hb03
  cases nv with
  | true =>
    have hfin := Lib.hid (hf.out false w3 (by simp [*]) hb03.out)
    replace hb03 := Lib.hid hb03
    go_wp2_with fail
    exact hfin.out
  | false =>
    cases na with
    | true =>
      cases nb with
      | true =>
        have hfin := Lib.hid (hf.out true w3 (by simp [*]) hb03.out)
        replace hb03 := Lib.hid hb03
        go_wp2_with fail
        exact hfin.out
      | false =>
        by_cases ge2 : e2 = 0
        ·
          subst ge2
          have ke2 : (((0 : Nat) : Int) == 0) = true := rfl
          by_cases gc2 : c2 ≤ 0
          ·
            have kc2 : decide (c2 ≤ 0) = true := decide_eq_true gc2
            have hfin := Lib.hid (hf.out true w3 (by simp [*]) hb03.out)
            replace hb03 := Lib.hid hb03
            go_wp2_with fail
            exact hfin.out
          ·
            have kc2 : decide (c2 ≤ 0) = false := decide_eq_false gc2
            have hfin := Lib.hid (hf.out false w3 (by simp [*]) hb03.out)
            replace hb03 := Lib.hid hb03
            go_wp2_with fail
            exact hfin.out
        ·
          have ke2 : ((e2 : Int) == 0) = false := by simp [ge2]
          have hfin := Lib.hid (hf.out false w3 (by simp [*]) hb03.out)
          replace hb03 := Lib.hid hb03
          go_wp2_with fail
          exact hfin.out
    | false =>
      by_cases ge1 : e1 = 0
      ·
        subst ge1
        have ke1 : (((0 : Nat) : Int) == 0) = true := rfl
        by_cases gc1 : c1 ≤ 0
        ·
          have kc1 : decide (c1 ≤ 0) = true := decide_eq_true gc1
          cases nb with
          | true =>
            have hfin := Lib.hid (hf.out true w3 (by simp [*]) hb03.out)
            replace hb03 := Lib.hid hb03
            go_wp2_with fail
            exact hfin.out
          | false =>
            by_cases ge2 : e2 = 0
            ·
              subst ge2
              have ke2 : (((0 : Nat) : Int) == 0) = true := rfl
              by_cases gc2 : c2 ≤ 0
              ·
                have kc2 : decide (c2 ≤ 0) = true := decide_eq_true gc2
                have hfin := Lib.hid (hf.out true w3 (by simp [*]) hb03.out)
                replace hb03 := Lib.hid hb03
                go_wp2_with fail
                exact hfin.out
              ·
                have kc2 : decide (c2 ≤ 0) = false := decide_eq_false gc2
                have hfin := Lib.hid (hf.out false w3 (by simp [*]) hb03.out)
                replace hb03 := Lib.hid hb03
                go_wp2_with fail
                exact hfin.out
            ·
              have ke2 : ((e2 : Int) == 0) = false := by simp [ge2]
              have hfin := Lib.hid (hf.out false w3 (by simp [*]) hb03.out)
              replace hb03 := Lib.hid hb03
              go_wp2_with fail
              exact hfin.out
        ·
          have kc1 : decide (c1 ≤ 0) = false := decide_eq_false gc1
          have hfin := Lib.hid (hf.out false w3 (by simp [*]) hb03.out)
          replace hb03 := Lib.hid hb03
          go_wp2_with fail
          exact hfin.out
      ·
        have ke1 : ((e1 : Int) == 0) = false := by simp [ge1]
        have hfin := Lib.hid (hf.out false w3 (by simp [*]) hb03.out)
        replace hb03 := Lib.hid hb03
        go_wp2_with fail
        exact hfin.out
end Go.Proofs.YtgnoikfmhncbmaaGreatDoor
