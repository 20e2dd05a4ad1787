/- Walks: values, same. -/
import Derived.Test.YtpjbcadelmjmfaaGreatDoorR4
namespace Go.Proofs.YtpjbcadelmjmfaaGreatDoor
open Go.RowKit Go.Lib

theorem infoRVal : (Tryz.prog.info? 54).map (fun i => (i.zero, i.size, i.bytes)) = some (some (.agg #[.int .i64 0, .bool false, .int .i64 0, .string ByteArray.empty, .bool false]), 5, 48) := by kernel_rfl
theorem infoVal : (Tryz.prog.info? 50).map (fun i => (i.zero, i.size, i.bytes)) = some (some (.agg #[.int .u8 0, .bool false, .int .i64 0, .string ByteArray.empty, .bool false]), 5, 40) := by kernel_rfl

theorem Rd.vbelow {w wr : World} {a : Option Addr} {cap : Nat} {l : List RV} (hr : Rd w (.slice a l.length cap) l.length (vCells l)) (hB : Below w.heap.size w wr) : Rd wr (.slice a l.length cap) l.length (vCells l) := hr.kept hB

set_option maxHeartbeats 2000000 in
theorem values_any (l : List RV) (hty : ∀ v ∈ l, v.ty < 256) (a : Option Addr) (cap : Nat) (w : World) (hr : Rd w (.slice a l.length cap) l.length (vCells l)) (hll : l.length ≤ 100000) :
    Calls Tryz.prog 19 #[.slice a l.length cap] w (RowPost w 54 5 l.length (rvCells l)) := by
  generalize hpost : RowPost w 54 5 l.length (rvCells l) = post
  replace hpost := Lib.hid hpost
  have h0 := RowB.nil w 54 5
  go_enter Tryz.func19, Tryz.ntmps19
  go_wp2_with fail
  go_loopw [3, 8] (fun o i wr => ∃ (k : Nat) (sa : Option Addr) (sc : Nat), k ≤ l.length ∧ i = .int .i64 k ∧ o = .slice sa k sc ∧ RowB w 54 5 k (rvCells (l.take k)) sa sc wr) (fun _ i _ => l.length - (intOf i).toNat)
  case atStart => exact ⟨0, none, 0, by omega, rfl, rfl, h0⟩
  case round =>
    clear h0
    obtain ⟨k, sa, sc, hk, rfl, rfl, hR⟩ := hrel
    by_cases hlt : k < l.length
    · have hlI : (k : Int) < l.length := by omega
      obtain ⟨bl, ol, cl, ea, fa⟩ := (hr.kept hR.b).cells (by omega)
      simp only [Value.slice.injEq, true_and] at ea
      obtain ⟨rfl, hcap⟩ := ea
      replace hcap := Lib.hid hcap
      have hsn := rvc_snoc (l.take k) (l.getD k RV0)
      rw [← take_getD l k RV0 hlt] at hsn
      have hty1 := hty _ (List.mem_of_getElem? (get_lt RV0 hlt))
      have g0 := vc_get hlt
      generalize l.getD k RV0 = v at *
      obtain ⟨ty, nl, n, tx, b⟩ := v
      simp only at hty1
      have c0 : wr.cell? ⟨bl, ol + k * 5, none⟩ = _ := fa _ _ (g0 0 _ rfl)
      have c1 : wr.cell? ⟨bl, ol + k * 5 + 1, none⟩ = _ := fa _ _ (g0 1 _ rfl)
      have c2 : wr.cell? ⟨bl, ol + k * 5 + 2, none⟩ = _ := fa _ _ (g0 2 _ rfl)
      have c3 : wr.cell? ⟨bl, ol + k * 5 + 3, none⟩ = _ := fa _ _ (g0 3 _ rfl)
      have c4 : wr.cell? ⟨bl, ol + k * 5 + 4, none⟩ = _ := fa _ _ (g0 4 _ rfl)
      have hR1 := hR.alloc (.cells #[.int .u8 (ty : Int), .bool nl, .int .i64 n, .string tx, .bool b] 50)
      have hN := Has.new wr [.int .u8 (ty : Int), .bool nl, .int .i64 n, .string tx, .bool b] 50
      have n0 := hN.cell (o := 0) rfl
      have n1 := hN.cell (o := 1) rfl
      have n2 := hN.cell (o := 2) rfl
      have n3 := hN.cell (o := 3) rfl
      have n4 := hN.cell (o := 4) rfl
      have hv := fun w => value_any ty nl n tx b hty1 w
      have hby : (k + 1) * 48 ≤ 140737488355328 := by omega
      replace hv := Lib.hid hv
      replace hsn := Lib.hid hsn
      replace hR1 := Lib.hid hR1
      clear fa g0 hR hN hty1
      go_wp2_with fail
      refine (hv.out _).mono ?_
      rintro e w1 ⟨rfl, hB1⟩
      have hR2 := hR1.out.below hB1
      have hR3 := hR2.alloc (.cells #[.int .i64 (ty : Int), .bool nl, .int .i64 n, .string tx, .bool b] 54)
      have hN1 := Has.new w1 [.int .i64 (ty : Int), .bool nl, .int .i64 n, .string tx, .bool b] 54
      have ho := hR3.o
      replace hR3 := Lib.hid hR3
      clear hR1 hR2 hB1 n0 n1 n2 n3 n4 c0 c1 c2 c3 c4 hv
      go_wp2_with (at_builtin; refine wpList_app rfl (.tmp 12) (.tmp 15) 41 rfl 54 (.agg #[.int .i64 0, .bool false, .int .i64 0, .string ByteArray.empty, .bool false]) 5 48 Tryz.underlying41 infoRVal rfl (by decide) (by decide) sa k sc (rvCells (l.take k)) (by exact ho) rfl _ 1 1 [.int .i64 (ty : Int), .bool nl, .int .i64 n, .string tx, .bool b] rfl rfl (by exact news_at hN1) (by simp [Value.oneCell']) (by exact hby) ?_)
      intro sa' sc' w2 own2 only2 fresh2
      have hR4 := hR3.out.app (m := k + 1) (ys := [.int .i64 (ty : Int), .bool nl, .int .i64 n, .string tx, .bool b]) own2 only2 (by simpa using fresh2)
      have hR5 : RowB w 54 5 (k + 1) (rvCells (l.take (k + 1))) sa' sc' w2 := by rw [hsn.out]; exact hR4
      replace hR5 := Lib.hid hR5
      clear hR3 hR4 own2 only2 fresh2 hN1 ho
      go_wp2_with fail
      go_roundw
      case rel => first | exact ⟨k + 1, sa', sc', by omega, by go_num, rfl, hR5.out⟩ | ((repeat apply Exists.intro); exact ⟨⟨k + 1, sa', sc', by omega, by go_num, rfl, hR5.out⟩, rfl⟩)
      case measure => simp [intOf]; omega
    · have hkl : k = l.length := by omega
      have hkI : ¬ (k : Int) < l.length := by omega
      rw [List.take_of_length_le (by omega)] at hR
      have hfin : post (.returned (.slice sa k sc)) wr := by
        rw [← hpost.out]
        subst hkl
        exact ⟨sa, sc, rfl, hR⟩
      replace hfin := Lib.hid hfin
      clear hR hkl hr
      go_wp2_with fail
      first | exact hfin.out | (go_ret; exact hfin.out)
end Go.Proofs.YtpjbcadelmjmfaaGreatDoor
