/- Walks: great, values, columns, same: the law's loops over rows. -/
import Derived.Test.YtpjbcadelmjmfaaGreatDoorR1
namespace Go.Proofs.YtpjbcadelmjmfaaGreatDoor
open Go.RowKit Go.Lib

def greatP (l : List RV) : Bool := (l.any fun v => decide (2000 < v.tx.size)) || decide (20 < l.length)
theorem great_take {l : List RV} {k : Nat} (h : k < l.length) : ((l.take (k + 1)).any fun v => decide (2000 < v.tx.size)) = ((l.take k).any (fun v => decide (2000 < v.tx.size)) || decide (2000 < (l.getD k RV0).tx.size)) := by
  rw [take_getD l k RV0 h, List.any_append]; simp
theorem great_hit {l : List RV} {k : Nat} (h : k < l.length) (h2 : decide (2000 < (l.getD k RV0).tx.size) = true) : greatP l = true := by
  unfold greatP
  rw [Bool.or_eq_true]
  left
  rw [List.any_eq_true]
  exact ⟨_, List.mem_of_getElem? (get_lt RV0 h), h2⟩

set_option maxHeartbeats 1000000 in
theorem great_any (l : List RV) (a : Option Addr) (cap : Nat) (w : World) (hr : Rd w (.slice a l.length cap) l.length (vCells l)) (hll : l.length ≤ 9223372036854775807) :
    Calls Tryz.prog 14 #[.slice a l.length cap] w (RPost w (.bool (greatP l))) := by
  generalize hpost : RPost w (.bool (greatP l)) = post
  replace hpost := Lib.hid hpost
  go_enter Tryz.func14, Tryz.ntmps14
  go_wp2_with fail
  go_loopw [7] (fun i wr => ∃ k : Nat, k ≤ l.length ∧ i = .int .i64 k ∧ ((l.take k).any fun v => decide (2000 < v.tx.size)) = false ∧ Below w.heap.size w wr) (fun i _ => l.length - (intOf i).toNat)
  case atStart => exact ⟨0, by omega, rfl, by simp, Below.refl _ _⟩
  case round =>
    obtain ⟨k, hk, rfl, ha, hB⟩ := hrel
    by_cases hlt : k < l.length
    · have hlI : (k : Int) < l.length := by omega
      obtain ⟨bl, ol, cl, ea, fa⟩ := (hr.below hB (fun k hk => hr.lt (by intro e; have := vc_len l; rw [e] at this; simp at this; omega) hk)).cells (by omega)
      simp only [Value.slice.injEq, true_and] at ea
      obtain ⟨rfl, hcap⟩ := ea
      replace hcap := Lib.hid hcap
      have ht := great_take hlt
      have hh := great_hit hlt
      have g0 := vc_get hlt
      rw [ha, Bool.false_or] at ht
      generalize l.getD k RV0 = v at *
      obtain ⟨ty, nl, n, tx, b⟩ := v
      have c0 : wr.cell? ⟨bl, ol + k * 5, none⟩ = _ := fa _ _ (g0 0 _ rfl)
      have c1 : wr.cell? ⟨bl, ol + k * 5 + 1, none⟩ = _ := fa _ _ (g0 1 _ rfl)
      have c2 : wr.cell? ⟨bl, ol + k * 5 + 2, none⟩ = _ := fa _ _ (g0 2 _ rfl)
      have c3 : wr.cell? ⟨bl, ol + k * 5 + 3, none⟩ = _ := fa _ _ (g0 3 _ rfl)
      have c4 : wr.cell? ⟨bl, ol + k * 5 + 4, none⟩ = _ := fa _ _ (g0 4 _ rfl)
      have hN := Has.new wr [.int .u8 (ty : Int), .bool nl, .int .i64 n, .string tx, .bool b] 50
      have n3 := hN.cell (o := 3) rfl
      have hB1 := hB.alloc hB.size (.cells #[.int .u8 (ty : Int), .bool nl, .int .i64 n, .string tx, .bool b] 50)
      by_cases h2 : 2000 < tx.size
      · have d1 : decide (2000 < tx.size) = true := decide_eq_true h2
        have d2 : decide ((2000 : Int) < (tx.size : Int)) = true := decide_eq_true (by omega)
        have hfin : post (.returned (.bool true)) (wr.alloc (.cells #[.int .u8 (ty : Int), .bool nl, .int .i64 n, .string tx, .bool b] 50)) := by
          rw [← hpost.out, hh d1]; exact ⟨rfl, hB1⟩
        replace hfin := Lib.hid hfin
        replace hB1 := Lib.hid hB1
        clear ht hh g0 fa hN ha hB hr h2
        go_wp2_with fail
        first | exact hfin.out | (go_ret; exact hfin.out)
      · have d1 : decide (2000 < tx.size) = false := decide_eq_false h2
        have d2 : decide ((2000 : Int) < (tx.size : Int)) = false := decide_eq_false (by omega)
        rw [d1] at ht
        replace ht := Lib.hid ht
        replace hB1 := Lib.hid hB1
        clear hh g0 fa hN ha hB hr h2
        go_wp2_with fail
        go_roundw
        case rel => exact ⟨k + 1, by omega, by go_num, ht.out, hB1.out⟩
        case measure => simp [intOf]; omega
    · have hkl : k = l.length := by omega
      have hkI : ¬ (k : Int) < l.length := by omega
      rw [hkl, List.take_length] at ha
      obtain ⟨g, hg⟩ : ∃ g, g = decide (20 < l.length) := ⟨_, rfl⟩
      have hgI : decide ((20 : Int) < (l.length : Int)) = g := by rw [hg, Bool.eq_iff_iff]; simp; omega
      have hfin : post (.returned (.bool g)) wr := by
        rw [← hpost.out]
        refine ⟨?_, hB⟩
        unfold greatP
        rw [ha, hg]; rfl
      replace hfin := Lib.hid hfin
      replace hg := Lib.hid hg.symm
      have hg2 := hg.out
      clear ha hr hkl
      go_wp2_with fail
      first | exact hfin.out | (go_ret; exact hfin.out)
end Go.Proofs.YtpjbcadelmjmfaaGreatDoor
