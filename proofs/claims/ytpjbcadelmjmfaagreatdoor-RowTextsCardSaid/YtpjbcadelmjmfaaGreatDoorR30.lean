/- The walk of RowTexts. -/
import Derived.Test.YtpjbcadelmjmfaaGreatDoorR29
import Derived.Test.YtpjbcadelmjmfaaGreatDoorPl
import Derived.Test.YtpjbcadelmjmfaaGreatDoorR4
namespace Go.Proofs.YtpjbcadelmjmfaaGreatDoor
open Go.RowKit Go.Lib
set_option linter.unusedVariables false

set_option maxHeartbeats 8000000 in
set_option maxRecDepth 100000 in
theorem texts_walk (ta : Nat) (na : Bool) (ia : Int) (xa : ByteArray) (bv : Bool) (wa : ta < 256) (hsa : xa.size ≤ 9223372036854775807) (w : World) (hE : Env w) :
    Calls Tryz.prog 4 #[.agg #[.int .u8 (ta : Int), .bool na, .int .i64 ia, .string xa, .bool bv]] w (fun e w' => e = .returned (.bool true) ∧ Below w.heap.size w w') := by
  obtain ⟨W, hW⟩ : ∃ W, W = w.alloc (.cells #[.int .u8 (ta : Int), .bool na, .int .i64 ia, .string xa, .bool bv] 50) := ⟨_, rfl⟩
  have hA : Has W w.heap.size [.int .u8 (ta : Int), .bool na, .int .i64 ia, .string xa, .bool bv] 50 := by rw [hW]; exact Has.new w _ 50
  have hBW : Below w.heap.size w W := by rw [hW]; exact (Below.refl _ _).alloc (Nat.le_refl _) _
  have hEW := hE.below hBW
  have kA := fun w' (hb : Below W.heap.size W w') => hA.only (Only.of_below hb) (Nat.not_le.2 hA.lt)
  have aw := fun w' (hb : Below W.heap.size W w') => awake_any w' (hEW.below hb)
  have c1 := fun w' (hb : Below W.heap.size W w') => text_any ta na ia xa bv hsa w' (hEW.below hb)
  have c2 := fun w' => rtext_any ta na ia xa bv hsa w'
  have c3 := fun w' => rform_any ta na ia xa bv hsa w'
  have va := fun w' => value_any ta na ia xa bv wa w'
  have hgr := fun wx => great_any [⟨ta, na, ia, xa, bv⟩] (some ⟨wx, 0, none⟩) 1
  generalize greatP [⟨ta, na, ia, xa, bv⟩] = gr at *
  have hlen : (textP ⟨ta, na, ia, xa, bv⟩).length ≤ 1000000 ∨ True := .inr trivial
  have law := @lit_text ⟨ta, na, ia, xa, bv⟩
  have hnil : formP ⟨ta, na, ia, xa, bv⟩ ≠ 0 → textP ⟨ta, na, ia, xa, bv⟩ = [] := fun h => by unfold textP; rw [if_pos h]
  have hne : formP ⟨ta, na, ia, xa, bv⟩ = 0 → textP ⟨ta, na, ia, xa, bv⟩ ≠ [] := fun h e => by
    have h1 := law h
    rw [e, lit_empty] at h1
    have h2 := congrArg Prod.snd h1
    simp at h2
  have hsz : (ba (textP ⟨ta, na, ia, xa, bv⟩)).size ≤ 1000000 := by
    rw [ba, mk_size]
    unfold textP
    by_cases h : formP ⟨ta, na, ia, xa, bv⟩ = 0
    · obtain ⟨_, _, _, _, ⟨g1, g2⟩, _, g4⟩ := form_parts h
      simp only at g1 g2 g4
      rw [if_neg (by simpa using h)]
      have z1 : (itoa ia).length ≤ 21 := by
        unfold itoa
        split
        · rw [List.length_cons, decDigits_length]; have := nDigits_le20 ia.natAbs (by omega); omega
        · rw [decDigits_length]; have := nDigits_le20 ia.toNat (by omega); omega
      have z2 := dbl_len xa.data.toList
      have z3 : xa.data.toList.length = xa.size := by simp
      have z4 : (39 :: dbl xa.data.toList ++ [39]).length ≤ 402 := by simp; omega
      split
      · decide
      · split
        · show (itoa ia).length ≤ _
          omega
        · split
          · show (39 :: dbl xa.data.toList ++ [39]).length ≤ _
            omega
          · split <;> decide
    · rw [if_pos h]; decide
  have c4 := fun w' (hb : Below W.heap.size W w') => literal_any (ba (textP ⟨ta, na, ia, xa, bv⟩)) hsz w' (hEW.below hb)
  rw [ba_data] at c4
  obtain ⟨fp, hfp⟩ : ∃ f, f = formP ⟨ta, na, ia, xa, bv⟩ := ⟨_, rfl⟩
  rw [← hfp] at law hnil hne c3
  obtain ⟨tp, htp⟩ : ∃ t, t = textP ⟨ta, na, ia, xa, bv⟩ := ⟨_, rfl⟩
  rw [← htp] at law hnil hne c1 c2 c4
  have beq1 : ((ba tp).toList == (ba tp).toList) = true := by simp
  have beq2 : ((ba tp).toList == ([] : List UInt8)) = decide (tp = []) := by rw [beqL]; rfl
  clear hsz hfp htp
  have a0 := hA.cell (o := 0) rfl
  have a1 := hA.cell (o := 1) rfl
  have a2 := hA.cell (o := 2) rfl
  have a3 := hA.cell (o := 3) rfl
  have a4 := hA.cell (o := 4) rfl
  replace hW := Lib.hid hW
  replace kA := Lib.hid kA
  replace aw := Lib.hid aw
  replace c1 := Lib.hid c1
  replace c2 := Lib.hid c2
  replace c3 := Lib.hid c3
  replace c4 := Lib.hid c4
  replace va := Lib.hid va
  replace hgr := Lib.hid hgr
  replace hBW := Lib.hid hBW
  replace law := Lib.hid law
  replace hnil := Lib.hid hnil
  replace hne := Lib.hid hne
  replace hlen := Lib.hid hlen
  replace beq1 := Lib.hid beq1
  replace beq2 := Lib.hid beq2
  clear hA hE hEW
  go_enter Tryz.func4, Tryz.ntmps4
  go_upto_region 1 with fail
  rw [← hW.out]
  go_wp2_with fail
  refine (aw.out W (Below.refl _ _)).mono ?_
  rintro e w1 ⟨rfl, hb1⟩
  clear a0 a1 a2 a3 a4
  have Ka := kA.out w1 hb1
  have a0 := Ka.cell (o := 0) rfl
  have a1 := Ka.cell (o := 1) rfl
  have a2 := Ka.cell (o := 2) rfl
  have a3 := Ka.cell (o := 3) rfl
  have a4 := Ka.cell (o := 4) rfl
  clear Ka
  have hV := Has.new w1 [.int .u8 (ta : Int), .bool na, .int .i64 ia, .string xa, .bool bv] 50
  have hg1 := hgr.out w1.heap.size _ (Rd.of_has hV 1 1) (by simp)
  have hbv : Below W.heap.size W (w1.alloc (.cells #[.int .u8 (ta : Int), .bool na, .int .i64 ia, .string xa, .bool bv] 50)) := hb1.alloc hb1.size _
  replace hg1 := Lib.hid hg1
  replace hb1 := Lib.hid hb1
  replace hbv := Lib.hid hbv
  clear hV
  go_wp2_with fail
  refine hg1.out.mono ?_
  rintro e w2 ⟨rfl, hb12⟩
  have hb2 := hbv.out.trans (hb12.mono hbv.out.size)
  clear hb12 hg1 hbv hgr a0 a1 a2 a3 a4
  cases gr with
  | true =>
    replace hb2 := Lib.hid hb2
    go_wp2_with fail
    refine (aw.out w2 hb2.out).mono ?_
    rintro e w3 ⟨rfl, hb23⟩
    have hf := hBW.out.trans ((hb2.out.trans (hb23.mono hb2.out.size)).mono hBW.out.size)
    replace hf := Lib.hid hf
    clear hb23
    go_wp2_with fail
    go_ret
    exact ⟨rfl, hf.out⟩
  | false =>
    have Ka := kA.out w2 hb2
    have a0 := Ka.cell (o := 0) rfl
    have a1 := Ka.cell (o := 1) rfl
    have a2 := Ka.cell (o := 2) rfl
    have a3 := Ka.cell (o := 3) rfl
    have a4 := Ka.cell (o := 4) rfl
    clear Ka
    have q := c1.out w2 hb2
    replace q := Lib.hid q
    replace hb2 := Lib.hid hb2
    go_wp2_with fail
    refine q.out.mono ?_
    rintro e w3 ⟨rfl, hbt⟩
    have hb3 := hb2.out.trans (hbt.mono hb2.out.size)
    clear hbt q a0 a1 a2 a3 a4
    have Ka := kA.out w3 hb3
    have a0 := Ka.cell (o := 0) rfl
    have a1 := Ka.cell (o := 1) rfl
    have a2 := Ka.cell (o := 2) rfl
    have a3 := Ka.cell (o := 3) rfl
    have a4 := Ka.cell (o := 4) rfl
    clear Ka
    have q := va.out w3
    replace q := Lib.hid q
    replace hb3 := Lib.hid hb3
    go_wp2_with fail
    refine q.out.mono ?_
    rintro e w4 ⟨rfl, hbt⟩
    have hb4 := hb3.out.trans (hbt.mono hb3.out.size)
    clear hbt q a0 a1 a2 a3 a4
    replace hb4 := Lib.hid hb4
    go_wp2_with fail
    refine (c2.out w4).mono ?_
    rintro e w5 ⟨rfl, hbt⟩
    have hb5 := hb4.out.trans (hbt.mono hb4.out.size)
    clear hbt
    have b1 := beq1.out
    have q := c4.out w5 hb5
    replace q := Lib.hid q
    replace hb5 := Lib.hid hb5
    go_wp2_with fail
    refine q.out.mono ?_
    rintro e w6 ⟨he, hbt⟩
    have hb6 := hb5.out.trans (hbt.mono hb5.out.size)
    clear hbt q b1
    by_cases hf0 : fp = 0
    · have hl := law.out hf0
      have hn := hne.out hf0
      rw [hl] at he
      subst hf0
      have b2 := beq2.out
      rw [decide_eq_false hn] at b2
      have hb6h := Lib.hid hb6
      cases na with
      | true =>
        have he2 : e = .returned (.tuple #[.agg #[.int .u8 0, .bool true, .int .i64 0, .string ⟨#[]⟩, .bool false], .int .i64 0]) := he
        subst he2
        clear he hl hn
        have Ka := kA.out w6 hb6
        have a0 := Ka.cell (o := 0) rfl
        have a1 := Ka.cell (o := 1) rfl
        have a2 := Ka.cell (o := 2) rfl
        have a3 := Ka.cell (o := 3) rfl
        have a4 := Ka.cell (o := 4) rfl
        clear Ka
        obtain ⟨w7, hw7⟩ : ∃ x, x = w6.alloc (.cells #[.int .u8 0, .bool true, .int .i64 0, .string ⟨#[]⟩, .bool false] 50) := ⟨_, rfl⟩
        have hN : Has w7 w6.heap.size [.int .u8 0, .bool true, .int .i64 0, .string ⟨#[]⟩, .bool false] 50 := by rw [hw7]; exact Has.new w6 _ 50
        have hb7 : Below W.heap.size W w7 := by rw [hw7]; exact hb6.alloc hb6.size _
        replace hb6 := Lib.hid hb6
        replace hw7 := Lib.hid hw7
        go_upto_region 7 with fail
        rw [← hw7.out]
        clear a0 a1 a2 a3 a4
        have Ka := kA.out w7 hb7
        have a0 := Ka.cell (o := 0) rfl
        have a1 := Ka.cell (o := 1) rfl
        have a2 := Ka.cell (o := 2) rfl
        have a3 := Ka.cell (o := 3) rfl
        have a4 := Ka.cell (o := 4) rfl
        clear Ka
        have kN := fun w' (hb : Below w7.heap.size w7 w') => hN.only (Only.of_below hb) (Nat.not_le.2 hN.lt)
        have q := va.out w7
        replace q := Lib.hid q
        replace hb7 := Lib.hid hb7
        replace kN := Lib.hid kN
        clear hN
        go_wp2_with fail
        refine q.out.mono ?_
        rintro e w8 ⟨rfl, hb78⟩
        clear q a0 a1 a2 a3 a4
        replace hb78 := Lib.hid hb78
        go_wp2_with fail
        refine (c3.out w8).mono ?_
        rintro e w9 ⟨rfl, hbt⟩
        have hb79 := hb78.out.trans (hbt.mono hb78.out.size)
        have hb9 := hb7.out.trans (hb79.mono hb7.out.size)
        have hf := hBW.out.trans (hb9.mono hBW.out.size)
        replace hf := Lib.hid hf
        have Ka := kA.out w9 hb9
        have a0 := Ka.cell (o := 0) rfl
        have a1 := Ka.cell (o := 1) rfl
        have a2 := Ka.cell (o := 2) rfl
        have a3 := Ka.cell (o := 3) rfl
        have a4 := Ka.cell (o := 4) rfl
        clear Ka
        have Kn := kN.out w9 hb79
        have n0 := Kn.cell (o := 0) rfl
        have n1 := Kn.cell (o := 1) rfl
        have n2 := Kn.cell (o := 2) rfl
        have n3 := Kn.cell (o := 3) rfl
        have n4 := Kn.cell (o := 4) rfl
        clear Kn hbt hb79 hb9
        go_wp2_with fail
        go_ret
        exact ⟨rfl, hf.out⟩
      | false =>
        have he2 : e = .returned (.tuple #[.agg #[.int .u8 (ta : Int), .bool false, .int .i64 ia, .string xa, .bool bv], .int .i64 0]) := he
        subst he2
        clear he hl hn
        have Ka := kA.out w6 hb6
        have a0 := Ka.cell (o := 0) rfl
        have a1 := Ka.cell (o := 1) rfl
        have a2 := Ka.cell (o := 2) rfl
        have a3 := Ka.cell (o := 3) rfl
        have a4 := Ka.cell (o := 4) rfl
        clear Ka
        obtain ⟨w7, hw7⟩ : ∃ x, x = w6.alloc (.cells #[.int .u8 (ta : Int), .bool false, .int .i64 ia, .string xa, .bool bv] 50) := ⟨_, rfl⟩
        have hN : Has w7 w6.heap.size [.int .u8 (ta : Int), .bool false, .int .i64 ia, .string xa, .bool bv] 50 := by rw [hw7]; exact Has.new w6 _ 50
        have hb7 : Below W.heap.size W w7 := by rw [hw7]; exact hb6.alloc hb6.size _
        replace hb6 := Lib.hid hb6
        replace hw7 := Lib.hid hw7
        go_upto_region 7 with fail
        rw [← hw7.out]
        clear a0 a1 a2 a3 a4
        have Ka := kA.out w7 hb7
        have a0 := Ka.cell (o := 0) rfl
        have a1 := Ka.cell (o := 1) rfl
        have a2 := Ka.cell (o := 2) rfl
        have a3 := Ka.cell (o := 3) rfl
        have a4 := Ka.cell (o := 4) rfl
        clear Ka
        have kN := fun w' (hb : Below w7.heap.size w7 w') => hN.only (Only.of_below hb) (Nat.not_le.2 hN.lt)
        have q := va.out w7
        replace q := Lib.hid q
        replace hb7 := Lib.hid hb7
        replace kN := Lib.hid kN
        clear hN
        go_wp2_with fail
        refine q.out.mono ?_
        rintro e w8 ⟨rfl, hb78⟩
        clear q a0 a1 a2 a3 a4
        replace hb78 := Lib.hid hb78
        go_wp2_with fail
        refine (c3.out w8).mono ?_
        rintro e w9 ⟨rfl, hbt⟩
        have hb79 := hb78.out.trans (hbt.mono hb78.out.size)
        have hb9 := hb7.out.trans (hb79.mono hb7.out.size)
        have hf := hBW.out.trans (hb9.mono hBW.out.size)
        replace hf := Lib.hid hf
        have Ka := kA.out w9 hb9
        have a0 := Ka.cell (o := 0) rfl
        have a1 := Ka.cell (o := 1) rfl
        have a2 := Ka.cell (o := 2) rfl
        have a3 := Ka.cell (o := 3) rfl
        have a4 := Ka.cell (o := 4) rfl
        clear Ka
        have Kn := kN.out w9 hb79
        have n0 := Kn.cell (o := 0) rfl
        have n1 := Kn.cell (o := 1) rfl
        have n2 := Kn.cell (o := 2) rfl
        have n3 := Kn.cell (o := 3) rfl
        have n4 := Kn.cell (o := 4) rfl
        clear Kn hbt hb79 hb9
        go_wp2_with fail
        go_ret
        exact ⟨rfl, hf.out⟩
    · have hl := hnil.out hf0
      subst hl
      rw [lit_empty] at he
      have he2 : e = .returned (.tuple #[.agg #[.int .u8 0, .bool false, .int .i64 0, .string ⟨#[]⟩, .bool false], .int .i64 11]) := he
      subst he2
      have i1 : ((fp : Int) != 0) = true := by simp [hf0]
      have b2 := beq2.out
      rw [decide_eq_true rfl] at b2
      clear he
      replace hf0 := Lib.hid hf0
      have Ka := kA.out w6 hb6
      have a0 := Ka.cell (o := 0) rfl
      have a1 := Ka.cell (o := 1) rfl
      have a2 := Ka.cell (o := 2) rfl
      have a3 := Ka.cell (o := 3) rfl
      have a4 := Ka.cell (o := 4) rfl
      clear Ka
      obtain ⟨w7, hw7⟩ : ∃ x, x = w6.alloc (.cells #[.int .u8 0, .bool false, .int .i64 0, .string ⟨#[]⟩, .bool false] 50) := ⟨_, rfl⟩
      have hb7 : Below W.heap.size W w7 := by rw [hw7]; exact hb6.alloc hb6.size _
      replace hb6 := Lib.hid hb6
      replace hw7 := Lib.hid hw7
      go_upto_region 7 with fail
      rw [← hw7.out]
      clear a0 a1 a2 a3 a4
      have Ka := kA.out w7 hb7
      have a0 := Ka.cell (o := 0) rfl
      have a1 := Ka.cell (o := 1) rfl
      have a2 := Ka.cell (o := 2) rfl
      have a3 := Ka.cell (o := 3) rfl
      have a4 := Ka.cell (o := 4) rfl
      clear Ka
      have q := va.out w7
      replace q := Lib.hid q
      replace hb7 := Lib.hid hb7
      go_wp2_with fail
      refine q.out.mono ?_
      rintro e w8 ⟨rfl, hb78⟩
      clear q a0 a1 a2 a3 a4
      replace hb78 := Lib.hid hb78
      go_wp2_with fail
      refine (c3.out w8).mono ?_
      rintro e w9 ⟨rfl, hbt⟩
      have hb79 := hb78.out.trans (hbt.mono hb78.out.size)
      have hb9 := hb7.out.trans (hb79.mono hb7.out.size)
      have hf := hBW.out.trans (hb9.mono hBW.out.size)
      replace hf := Lib.hid hf
      clear hbt hb79 hb9
      go_wp2_with fail
      go_ret
      exact ⟨rfl, hf.out⟩
end Go.Proofs.YtpjbcadelmjmfaaGreatDoor
