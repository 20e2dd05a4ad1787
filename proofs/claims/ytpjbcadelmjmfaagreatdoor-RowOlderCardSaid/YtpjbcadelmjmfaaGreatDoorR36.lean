/- The walk of the reference's Valid. -/
import Derived.Test.YtpjbcadelmjmfaaGreatDoorR10
import Derived.Test.YtpjbcadelmjmfaaGreatDoorR7
namespace Go.Proofs.YtpjbcadelmjmfaaGreatDoor
open Go.RowKit Go.Lib
set_option linter.unusedVariables false

set_option maxHeartbeats 4000000 in
set_option maxRecDepth 100000 in
theorem rvalid_any (cs : List CV) (hcl : cs.length ≤ 100000) (ca : Option Addr) (cc : Nat) (l : List RV) (hls : ∀ v ∈ l, v.tx.size ≤ 9223372036854775807) (hll : l.length ≤ 100000) (ra : Option Addr) (rc : Nat)
    (w : World) (hr : Rd w (.slice ca cs.length cc) cs.length (rcCells cs)) (hl : Rd w (.slice ra l.length rc) l.length (rvCells l)) :
    Calls Tryz.prog 17 #[.slice ca cs.length cc, .slice ra l.length rc] w (RPost w (.int .i64 (rowP cs l : Nat))) := by
  generalize hpost : RPost w (.int .i64 (rowP cs l : Nat)) = post
  replace hpost := Lib.hid hpost
  have hfin : ∀ (k : Nat) w', k = rowP cs l → Below w.heap.size w w' → post (.returned (.int .i64 (k : Int))) w' := by
    intro k w' hk hb
    rw [← hpost.out, hk]
    exact ⟨rfl, hb⟩
  obtain ⟨n, hnn⟩ : ∃ n, n = cs.length := ⟨_, rfl⟩
  obtain ⟨m, hmm⟩ : ∃ m, m = l.length := ⟨_, rfl⟩
  rw [← hmm] at hll
  rw [← hnn] at hcl
  have hg : Calls Tryz.prog 17 #[.slice ca n cc, .slice ra m rc] w post := by
    replace hfin := Lib.hid hfin
    replace hnn := Lib.hid hnn
    replace hmm := Lib.hid hmm
    by_cases hnm : m = n
    · have dI : ((n : Int) != (m : Int)) = false := by rw [bne_nat]; simp [hnm]
      have hrowP : rowP cs l = fitsGo cs l := by unfold rowP; rw [if_neg (by have := hnn.out; have := hmm.out; omega)]
      replace hnm := Lib.hid hnm
      replace hrowP := Lib.hid hrowP
      go_enter Tryz.func17, Tryz.ntmps17
      go_wp2_with fail
      go_loopw [5] (fun i wr => ∃ k : Nat, k ≤ n ∧ i = .int .i64 k ∧ (∀ j, j < k → fitsP (cs.getD j CV0).ty (cs.getD j CV0).nl (l.getD j RV0) = 0) ∧ Below w.heap.size w wr) (fun i _ => n - (RowKit.intOf i).toNat)
      case atStart => exact ⟨0, by omega, rfl, fun j hj => by omega, Below.refl _ _⟩
      case round =>
        obtain ⟨k, hk, rfl, hz, hB⟩ := hrel
        by_cases hlt : k < n
        · have hlI : (k : Int) < n := by omega
          have hkm : k < m := by have := hnm.out; omega
          have hkmI : (k : Int) < m := by omega
          obtain ⟨bl, ol, cl, ea, fa⟩ := (hr.kept hB).rcol (k := k) (by have := hnn.out; omega)
          obtain ⟨bv, ov, cv, ev, fv⟩ := (hl.kept hB).rval (k := k) (by have := hmm.out; omega)
          simp only [Value.slice.injEq, true_and] at ea ev
          obtain ⟨ea1, hcap⟩ := ea
          subst ea1
          obtain ⟨ev1, hcapv⟩ := ev
          subst ev1
          replace hcap := Lib.hid hcap
          replace hcapv := Lib.hid hcapv
          have hsz := hls _ (List.mem_of_getElem? (get_lt RV0 (l := l) (k := k) (by have := hmm.out; omega)))
          have hhit := fitsGo_hit cs l k (by have := hnn.out; have := hmm.out; have := hnm.out; omega) (by have := hnn.out; omega) hz
          have hzn : fitsP (cs.getD k CV0).ty (cs.getD k CV0).nl (l.getD k RV0) = 0 → ∀ j, j < k + 1 → fitsP (cs.getD j CV0).ty (cs.getD j CV0).nl (l.getD j RV0) = 0 := by
            intro h j hj
            by_cases e : j = k
            · subst e; exact h
            · exact hz j (by omega)
          have hc := fun j v hj => fa j v hj
          have hv := fun j v hj => fv j v hj
          generalize cs.getD k CV0 = c at *
          generalize l.getD k RV0 = vv at *
          obtain ⟨nm, ty, nl, sc, ⟨dty, dnl, dn, dtx, db⟩⟩ := c
          obtain ⟨vt, vn, vi, vx, vb⟩ := vv
          have c0 : wr.cell? ⟨bl, ol + k * 8, none⟩ = _ := hc 0 _ rfl
          have c1 := hc 1 _ rfl
          have c2 := hc 2 _ rfl
          have c3 := hc 3 _ rfl
          have c4 := hc 4 _ rfl
          have c5 := hc 5 _ rfl
          have c6 := hc 6 _ rfl
          have c7 := hc 7 _ rfl
          have v0 : wr.cell? ⟨bv, ov + k * 5, none⟩ = _ := hv 0 _ rfl
          have v1 := hv 1 _ rfl
          have v2 := hv 2 _ rfl
          have v3 := hv 3 _ rfl
          have v4 := hv 4 _ rfl
          have hfi := rfits_any ty nl sc ⟨dty, dnl, dn, dtx, db⟩ vt vn vi vx vb hsz wr.drew
          simp only at hfi hhit hzn
          generalize fitsP ty nl ⟨vt, vn, vi, vx, vb⟩ = fk at *
          have hBn := below_drew hB
          replace hfi := Lib.hid hfi
          replace hhit := Lib.hid hhit
          replace hzn := Lib.hid hzn
          replace hBn := Lib.hid hBn
          clear hc hv fa fv hB hz
          go_upto_region 6 with fail
          refine region_tail 8 (by kernel_rfl) (by kernel_rfl) ?_
          simp only [List.take_succ_cons, List.take_zero, List.drop_succ_cons, List.drop_zero]
          repeat still_step
          refine wpStill_nil ?_
          go_wp2_with fail
          refine hfi.out.mono ?_
          rintro e w2 ⟨rfl, hB2⟩
          have hBo := hBn.out.trans (hB2.mono hBn.out.size)
          clear hB2 hBn c0 c1 c2 c3 c4 c5 c6 c7 v0 v1 v2 v3 v4
          by_cases hf0 : fk = 0
          · have d1 : ((fk : Int) != 0) = false := by simp [hf0]
            have hz2 := hzn.out hf0
            replace hz2 := Lib.hid hz2
            replace hBo := Lib.hid hBo
            replace hf0 := Lib.hid hf0
            clear hhit hzn
            go_wp2_with fail
            go_roundw
            case rel => exact ⟨k + 1, by omega, by go_num, hz2.out, hBo.out⟩
            case measure => simp [RowKit.intOf]; omega
          · have d1 : ((fk : Int) != 0) = true := by simp [hf0]
            have hf := hfin.out fk w2 (by rw [hrowP.out]; exact (hhit.out hf0).symm) hBo
            replace hf := Lib.hid hf
            replace hf0 := Lib.hid hf0
            clear hhit hzn hBo
            go_wp2_with fail
            first | exact hf.out | (go_ret; exact hf.out)
        · have hkI : ¬ (k : Int) < n := by omega
          have hke : k = n := by omega
          have hf := hfin.out 0 wr (by rw [hrowP.out]; exact (fitsGo_all cs l (by have := hnn.out; have := hmm.out; have := hnm.out; omega) (by have := hnn.out; rw [← this, ← hke]; exact hz)).symm) hB
          replace hf := Lib.hid hf
          clear hz hB hke
          go_wp2_with fail
          first | exact hf.out | (go_ret; exact hf.out)
    · have dI : ((n : Int) != (m : Int)) = true := by rw [bne_nat]; simp; omega
      have hf := hfin.out 1 w (by unfold rowP; rw [if_pos (by have := hnn.out; have := hmm.out; omega)]) (Below.refl _ _)
      replace hf := Lib.hid hf
      replace hnm := Lib.hid hnm
      clear hfin
      go_enter Tryz.func17, Tryz.ntmps17
      go_wp2_with fail
      first | exact hf.out | (go_ret; exact hf.out)
  rw [hnn, hmm] at hg
  exact hg
end Go.Proofs.YtpjbcadelmjmfaaGreatDoor
