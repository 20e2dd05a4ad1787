/- The walk of the law's columns. -/
import Derived.Test.YtpjbcadelmjmfaaGreatDoorR16
namespace Go.Proofs.YtpjbcadelmjmfaaGreatDoor
open Go.RowKit Go.Lib

theorem infoRCol : (Tryz.prog.info? 96).map (fun i => (i.zero, i.size, i.bytes)) = some (some (.agg #[.int .i64 0, .bool false, .int .i64 0, .int .i64 0, .bool false, .int .i64 0, .string ByteArray.empty, .bool false]), 8, 72) := by kernel_rfl
set_option maxHeartbeats 8000000 in
set_option maxRecDepth 100000 in
theorem columns_any (tn : ByteArray) (ver : Int) (cs : List CV) (hty : ∀ c ∈ cs, c.ty < 256 ∧ c.df.ty < 256) (hll : cs.length ≤ 100000) (ca : Option Addr) (cc : Nat) (w : World) (hr : Rd w (.slice ca cs.length cc) cs.length (cCells cs)) :
    Calls Tryz.prog 18 #[.agg #[.string tn, .int .i64 ver, .slice ca cs.length cc, .slice none 0 0, .int .u64 0, .int .u64 0]] w (RowPost w 96 8 cs.length (rcCells cs)) := by
  generalize hpost : RowPost w 96 8 cs.length (rcCells cs) = post
  replace hpost := Lib.hid hpost
  obtain ⟨W, hW⟩ : ∃ W, W = w.alloc (.cells #[.string tn, .int .i64 ver, .slice ca cs.length cc, .slice none 0 0, .int .u64 0, .int .u64 0] 32) := ⟨_, rfl⟩
  have hT : Has W w.heap.size [.string tn, .int .i64 ver, .slice ca cs.length cc, .slice none 0 0, .int .u64 0, .int .u64 0] 32 := by rw [hW]; exact Has.new w _ _
  have hBW : Below w.heap.size w W := by rw [hW]; exact (Below.refl _ _).alloc (Nat.le_refl _) _
  have h0 := RowB.nil' hBW 96 8
  have t2 := hT.cell (o := 2) rfl
  obtain ⟨n, hnn⟩ : ∃ n, n = cs.length := ⟨_, rfl⟩
  rw [← hnn] at hW t2 ⊢
  replace hW := Lib.hid hW
  replace h0 := Lib.hid h0
  replace hnn := Lib.hid hnn
  clear hT
  go_enter Tryz.func18, Tryz.ntmps18
  go_upto_region 1 with fail
  rw [← hW.out]
  go_wp2_with fail
  go_loopw [3, 9] (fun o i wr => ∃ (k : Nat) (sa : Option Addr) (sc : Nat), k ≤ n ∧ i = .int .i64 k ∧ o = .slice sa k sc ∧ RowB w 96 8 k (rcCells (cs.take k)) sa sc wr) (fun _ i _ => n - (RowKit.intOf i).toNat)
  case atStart => exact ⟨0, none, 0, by omega, rfl, rfl, h0.out⟩
  case round =>
    clear h0 t2
    obtain ⟨k, sa, sc, hk, rfl, rfl, hR⟩ := hrel
    by_cases hlt : k < n
    · have hlI : (k : Int) < n := by omega
      have hkc : k < cs.length := by have := hnn.out; omega
      obtain ⟨bl, ol, cl, ea, fa⟩ := (hr.kept hR.b).col hkc
      simp only [Value.slice.injEq, true_and] at ea
      obtain ⟨rfl, hcap⟩ := ea
      replace hcap := Lib.hid hcap
      have hsn := rcc_snoc (cs.take k) (cs.getD k CV0)
      rw [← take_getD cs k CV0 hkc] at hsn
      have hty1 := hty _ (List.mem_of_getElem? (get_lt CV0 hkc))
      have hc := fun j v hj => fa j v hj
      generalize cs.getD k CV0 = c at *
      obtain ⟨nm, ty, nl, sc0, ⟨dty, dnl, dn, dtx, db⟩⟩ := c
      simp only at hty1
      obtain ⟨hty1, hty2⟩ := hty1
      have c0 : wr.cell? ⟨bl, ol + k * 9, none⟩ = _ := hc 0 _ rfl
      have c1 := hc 1 _ rfl
      have c2 := hc 2 _ rfl
      have c3 := hc 3 _ rfl
      have c4 := hc 4 _ rfl
      have c5 := hc 5 _ rfl
      have c6 := hc 6 _ rfl
      have c7 := hc 7 _ rfl
      have c8 := hc 8 _ rfl
      obtain ⟨A, hA⟩ : ∃ A, A = wr.alloc (.cells #[.string nm, .int .u8 (ty : Int), .bool nl, .int .i64 sc0, .int .u8 (dty : Int), .bool dnl, .int .i64 dn, .string dtx, .bool db] 78) := ⟨_, rfl⟩
      have hN : Has A wr.heap.size [.string nm, .int .u8 (ty : Int), .bool nl, .int .i64 sc0, .int .u8 (dty : Int), .bool dnl, .int .i64 dn, .string dtx, .bool db] 78 := by rw [hA]; exact Has.new wr _ _
      have hRA : RowB w 96 8 k (rcCells (cs.take k)) sa sc A.drew := by rw [hA]; exact (hR.alloc _).below ((Below.refl _ _).drew)
      have n1 : A.drew.cell? ⟨wr.heap.size, 1, none⟩ = _ := hN.drew.cell (o := 1) rfl
      have n2 : A.drew.cell? ⟨wr.heap.size, 2, none⟩ = _ := hN.drew.cell (o := 2) rfl
      have n3 : A.drew.cell? ⟨wr.heap.size, 3, none⟩ = _ := hN.drew.cell (o := 3) rfl
      have n4 : A.drew.cell? ⟨wr.heap.size, 4, none⟩ = _ := hN.drew.cell (o := 4) rfl
      have n5 : A.drew.cell? ⟨wr.heap.size, 5, none⟩ = _ := hN.drew.cell (o := 5) rfl
      have n6 : A.drew.cell? ⟨wr.heap.size, 6, none⟩ = _ := hN.drew.cell (o := 6) rfl
      have n7 : A.drew.cell? ⟨wr.heap.size, 7, none⟩ = _ := hN.drew.cell (o := 7) rfl
      have n8 : A.drew.cell? ⟨wr.heap.size, 8, none⟩ = _ := hN.drew.cell (o := 8) rfl
      have m1 : A.cell? ⟨wr.heap.size, 1, none⟩ = _ := n1
      have m2 : A.cell? ⟨wr.heap.size, 2, none⟩ = _ := n2
      have m3 : A.cell? ⟨wr.heap.size, 3, none⟩ = _ := n3
      have m4 : A.cell? ⟨wr.heap.size, 4, none⟩ = _ := n4
      have m5 : A.cell? ⟨wr.heap.size, 5, none⟩ = _ := n5
      have m6 : A.cell? ⟨wr.heap.size, 6, none⟩ = _ := n6
      have m7 : A.cell? ⟨wr.heap.size, 7, none⟩ = _ := n7
      have m8 : A.cell? ⟨wr.heap.size, 8, none⟩ = _ := n8
      have hv := value_any dty dnl dn dtx db hty2 A.drew
      have hk1 := fun (w1 : World) (hb : Below A.drew.heap.size A.drew w1) => And.intro (cellk hb n1) (And.intro (cellk hb n2) (cellk hb n3))
      have hby : (k + 1) * 72 ≤ 140737488355328 := by have := hnn.out; omega
      have hfin : ∀ sa' sc' w2, RowB w 96 8 (k + 1) (rcCells (cs.take k) ++ [.int .i64 (ty : Int), .bool nl, .int .i64 sc0, .int .i64 (dty : Int), .bool dnl, .int .i64 dn, .string dtx, .bool db]) sa' sc' w2 → RowB w 96 8 (k + 1) (rcCells (cs.take (k + 1))) sa' sc' w2 := by
        intro sa' sc' w2 h
        rw [hsn]; exact h
      have happ : ∀ w1, Below A.drew.heap.size A.drew w1 → RowB w 96 8 k (rcCells (cs.take k)) sa sc (w1.alloc (.cells #[.int .i64 (ty : Int), .bool nl, .int .i64 sc0, .int .i64 (dty : Int), .bool dnl, .int .i64 dn, .string dtx, .bool db] 96)) := fun w1 hb => (hRA.below hb).alloc _
      replace hA := Lib.hid hA
      replace hv := Lib.hid hv
      replace hk1 := Lib.hid hk1
      replace hfin := Lib.hid hfin
      replace happ := Lib.hid happ
      replace hsn := Lib.hid hsn
      clear hc fa hR hN hRA hty2
      go_upto_region 5 with fail
      rw [← hA.out]
      clear c0 c1 c2 c3 c4 c5 c6 c7 c8
      have hwr : IntKind.i64.wrap (ty : Int) = (ty : Int) := by
        have h1 : ((ty : Int)) % (2 ^ IntKind.i64.bits : Int) = (ty : Int) := Int.emod_eq_of_lt (by omega) (by show (ty : Int) < 18446744073709551616; omega)
        have h2 : decide ((ty : Int) ≥ (2 ^ (IntKind.i64.bits - 1) : Int)) = false := decide_eq_false (by show ¬ ((ty : Int) ≥ 9223372036854775808); omega)
        unfold IntKind.wrap
        simp only [h1, h2, Bool.and_false, Bool.false_eq_true, if_false]
      go_region_law ((first | (refine step_row (by rfl) _ _ _ (by rfl) 96 (.agg #[.int .i64 0, .bool false, .int .i64 0, .int .i64 0, .bool false, .int .i64 0, .string ByteArray.empty, .bool false]) 8 72 Tryz.underlying39 infoRCol (by rfl) (by decide) (by decide) sa k sc (rcCells (cs.take k)) (by exact happ.out _ hb1) (by rfl) _ 1 1 [.int .i64 (ty : Int), .bool nl, .int .i64 sc0, .int .i64 (dty : Int), .bool dnl, .int .i64 dn, .string dtx, .bool db] (by rfl) (by rfl) (by exact news_at (Has.new _ _ _)) (by simp [Value.oneCell']) hby ?_; intro sa1 sc1 w2 hR1 only1) | (go_simp; refine hv.out.mono ?_; rintro e w1 ⟨rfl, hb1⟩; obtain ⟨y1, y2, y3⟩ := hk1.out w1 hb1)))
      all_goals
        have hR5 := hfin.out _ _ _ hR1
        replace hR5 := Lib.hid hR5
        clear hwr n1 n2 n3 n4 n5 n6 n7 n8 m1 m2 m3 m4 m5 m6 m7 m8 hk1 happ hfin hv hR1 only1 hb1 y1 y2 y3
        go_wp2_with fail
        go_roundw
        case rel => first | exact ⟨k + 1, sa1, sc1, by omega, by go_num, rfl, hR5.out⟩ | ((repeat apply Exists.intro); exact ⟨⟨k + 1, sa1, sc1, by omega, by go_num, rfl, hR5.out⟩, rfl⟩)
        case measure => simp [RowKit.intOf]; omega
    · have hkl : k = n := by omega
      have hkI : ¬ (k : Int) < n := by omega
      rw [List.take_of_length_le (by have := hnn.out; omega)] at hR
      have hfin : post (.returned (.slice sa k sc)) wr := by
        rw [← hpost.out, ← hnn.out]
        subst hkl
        exact ⟨sa, sc, rfl, hR⟩
      replace hfin := Lib.hid hfin
      clear hR hkl hr
      go_wp2_with fail
      first | exact hfin.out | (go_ret; exact hfin.out)
end Go.Proofs.YtpjbcadelmjmfaaGreatDoor
