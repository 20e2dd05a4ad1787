/- The walk of row.Valid. -/
import Derived.Test.YtpjbcadelmjmfaaGreatDoorR9
namespace Go.Proofs.YtpjbcadelmjmfaaGreatDoor
open Go.RowKit Go.Lib

theorem fitsGo_all : ∀ (cs : List CV) (l : List RV), cs.length = l.length → (∀ j, j < cs.length → fitsP (cs.getD j CV0).ty (cs.getD j CV0).nl (l.getD j RV0) = 0) → fitsGo cs l = 0
  | [], [], _, _ => rfl
  | c :: cs, v :: l, h, hj => by
    have h0 := hj 0 (by simp)
    simp only [List.getD_cons_zero] at h0
    unfold fitsGo
    rw [if_neg (by rw [h0]; simp)]
    exact fitsGo_all cs l (by simpa using h) (fun j hl => by have := hj (j + 1) (by simp; omega); simpa using this)
  | [], _ :: _, h, _ => by simp at h
  | _ :: _, [], h, _ => by simp at h
theorem fitsGo_hit : ∀ (cs : List CV) (l : List RV) (k : Nat), cs.length = l.length → k < cs.length → (∀ j, j < k → fitsP (cs.getD j CV0).ty (cs.getD j CV0).nl (l.getD j RV0) = 0) →
    fitsP (cs.getD k CV0).ty (cs.getD k CV0).nl (l.getD k RV0) ≠ 0 → fitsGo cs l = fitsP (cs.getD k CV0).ty (cs.getD k CV0).nl (l.getD k RV0)
  | c :: cs, v :: l, 0, h, hk, hj, hn => by
    simp only [List.getD_cons_zero] at hn ⊢
    unfold fitsGo
    rw [if_pos hn]
  | c :: cs, v :: l, k + 1, h, hk, hj, hn => by
    have h0 := hj 0 (by omega)
    simp only [List.getD_cons_zero] at h0
    simp only [List.getD_cons_succ] at hn ⊢
    unfold fitsGo
    rw [if_neg (by rw [h0]; simp)]
    exact fitsGo_hit cs l k (by simpa using h) (by simpa using hk) (fun j hl => by have := hj (j + 1) (by omega); simpa using this) hn
  | [], [], _, _, hk, _, _ => by simp at hk
  | [], _ :: _, _, h, _, _, _ => by simp at h
  | _ :: _, [], _, h, _, _, _ => by simp at h

set_option maxHeartbeats 4000000 in
set_option maxRecDepth 100000 in
theorem rowvalid_any (tn : ByteArray) (x0 : Nat) (hn : One tn x0) (ver : Int) (cs : List CV) (hok : TabOk cs) (h0 : 0 < cs.length) (hver : VerIs ver cs 0) (ca : Option Addr) (cc : Nat) (l : List RV) (hls : ∀ v ∈ l, v.tx.size ≤ 9223372036854775807) (hll : l.length ≤ 100000) (ra : Option Addr) (rc : Nat)
    (w : World) (hr : Rd w (.slice ca cs.length cc) cs.length (cCells cs)) (hl : Rd w (.slice ra l.length rc) l.length (vCells l)) (hE : Env w) :
    Calls Tryz.prog 20 #[.agg #[.string tn, .int .i64 ver, .slice ca cs.length cc, .slice none 0 0, .int .u64 0, .int .u64 0], .slice ra l.length rc] w (RPost w (.int .i64 (rowP cs l : Nat))) := by
  generalize hpost : RPost w (.int .i64 (rowP cs l : Nat)) = post
  replace hpost := Lib.hid hpost
  obtain ⟨W, hW⟩ : ∃ W, W = w.alloc (.cells #[.string tn, .int .i64 ver, .slice ca cs.length cc, .slice none 0 0, .int .u64 0, .int .u64 0] 32) := ⟨_, rfl⟩
  have hT : Has W w.heap.size [.string tn, .int .i64 ver, .slice ca cs.length cc, .slice none 0 0, .int .u64 0, .int .u64 0] 32 := by rw [hW]; exact Has.new w _ _
  have hBW : Below w.heap.size w W := by rw [hW]; exact (Below.refl _ _).alloc (Nat.le_refl _) _
  have hrW := hr.kept hBW
  have hlW := hl.kept hBW
  have hEW := hE.below hBW
  have hfin : ∀ (k : Nat) w', k = rowP cs l → Below W.heap.size W w' → post (.returned (.int .i64 (k : Int))) w' := by
    intro k w' hk hb
    rw [← hpost.out, hk]
    exact ⟨rfl, hBW.trans (hb.mono hBW.size)⟩
  have htv := tabvalid_any tn x0 hn ver cs hok h0 0 hver ca cc W hrW hEW
  have hc8 := hok.len
  clear hr hl hE hBW hok hver
  obtain ⟨ba, oa, cca, eca, _⟩ := hrW.cells h0
  simp only [Value.slice.injEq, true_and] at eca
  obtain ⟨eca1, eca2⟩ := eca
  subst eca1
  clear eca2
  obtain ⟨n, hnn⟩ : ∃ n, n = cs.length := ⟨_, rfl⟩
  obtain ⟨m, hmm⟩ : ∃ m, m = l.length := ⟨_, rfl⟩
  rw [← hnn] at htv hT hW hc8 h0 ⊢
  rw [← hmm] at hll ⊢
  have t0 := hT.cell (o := 0) rfl
  have t1 := hT.cell (o := 1) rfl
  have t2 := hT.cell (o := 2) rfl
  have t3 := hT.cell (o := 3) rfl
  have t4 := hT.cell (o := 4) rfl
  have t5 := hT.cell (o := 5) rfl
  replace hW := Lib.hid hW
  replace hfin := Lib.hid hfin
  replace htv := Lib.hid htv
  replace hnn := Lib.hid hnn
  replace hmm := Lib.hid hmm
  go_enter Tryz.func20, Tryz.ntmps20
  go_upto_region 1 with fail
  rw [← hW.out]
  go_wp2_with fail
  refine htv.out.mono ?_
  rintro e w1 ⟨rfl, hB1⟩
  have hT1 := hT.only (Only.of_below hB1) (Nat.not_le.2 hT.lt)
  have t2a := hT1.cell (o := 2) rfl
  clear t0 t1 t2 t3 t4 t5 htv
  by_cases hnm : m = n
  · have dI : ((m : Int) != (n : Int)) = false := by rw [bne_nat]; simp [hnm]
    have hrowP : rowP cs l = fitsGo cs l := by unfold rowP; rw [if_neg (by have := hnn.out; have := hmm.out; omega)]
    have hfit : ∀ v, v ∈ l → v.tx.size ≤ 9223372036854775807 := hls
    replace hnm := Lib.hid hnm
    replace hrowP := Lib.hid hrowP
    replace hB1 := Lib.hid hB1
    replace hT1 := Lib.hid hT1
    go_wp2_with fail
    go_loopw [22] (fun i wr => ∃ k : Nat, k ≤ n ∧ i = .int .i64 k ∧ (∀ j, j < k → fitsP (cs.getD j CV0).ty (cs.getD j CV0).nl (l.getD j RV0) = 0) ∧ Below W.heap.size W wr) (fun i _ => n - (RowKit.intOf i).toNat)
    case atStart => exact ⟨0, by omega, rfl, fun j hj => by omega, hB1.out⟩
    case round =>
      clear t2a
      obtain ⟨k, hk, rfl, hz, hB⟩ := hrel
      by_cases hlt : k < n
      · have hlI : (k : Int) < n := by omega
        have hkm : k < m := by have := hnm.out; omega
        have hkmI : (k : Int) < m := by omega
        obtain ⟨bl, ol, cl, ea, fa⟩ := (hrW.kept hB).col (k := k) (by have := hnn.out; omega)
        simp only [Value.slice.injEq, true_and] at ea
        obtain ⟨ea1, hcap⟩ := ea
        simp only [Option.some.injEq, Addr.mk.injEq, and_true] at ea1
        obtain ⟨eab, eao⟩ := ea1
        subst eab eao
        obtain ⟨bv, ov, cv, ev, fv⟩ := (hlW.kept hB).val (k := k) (by have := hmm.out; omega)
        simp only [Value.slice.injEq, true_and] at ev
        obtain ⟨ev1, hcapv⟩ := ev
        subst ev1
        replace hcap := Lib.hid hcap
        replace hcapv := Lib.hid hcapv
        have hsz := hls _ (List.mem_of_getElem? (get_lt RV0 (l := l) (k := k) (by have := hmm.out; omega)))
        have hhit := fitsGo_hit cs l k (by have := hnn.out; have := hmm.out; have := hnm.out; omega) (by have := hnn.out; omega) hz
        have hzn : fitsP (cs.getD k CV0).ty (cs.getD k CV0).nl (l.getD k RV0) = 0 → ∀ j, j < k + 1 → fitsP (cs.getD j CV0).ty (cs.getD j CV0).nl (l.getD j RV0) = 0 := by
          intro h j hj
          by_cases e : j = k
          · subst e; exact h
          · exact hz j (by omega)
        have hc := fun j v hj => fa j v hj
        have hv := fun j v hj => fv j v hj
        generalize cs.getD k CV0 = c at *
        generalize l.getD k RV0 = vv at *
        obtain ⟨nm, ty, nl, sc, ⟨dty, dnl, dn, dtx, db⟩⟩ := c
        have c0 : wr.cell? ⟨ba, oa + k * 9, none⟩ = _ := hc 0 _ rfl
        have c1 := hc 1 _ rfl
        have c2 := hc 2 _ rfl
        have c3 := hc 3 _ rfl
        have c4 := hc 4 _ rfl
        have c5 := hc 5 _ rfl
        have c6 := hc 6 _ rfl
        have c7 := hc 7 _ rfl
        have c8 := hc 8 _ rfl
        have hNN := Has.new wr [.string nm, .int .u8 (ty : Int), .bool nl, .int .i64 sc, .int .u8 (dty : Int), .bool dnl, .int .i64 dn, .string dtx, .bool db] 78
        have hBx : Below wr.heap.size wr (wr.alloc (.cells #[.string nm, .int .u8 (ty : Int), .bool nl, .int .i64 sc, .int .u8 (dty : Int), .bool dnl, .int .i64 dn, .string dtx, .bool db] 78)) := (Below.refl _ _).alloc (Nat.le_refl _) _
        have n0 := hNN.cell (o := 0) rfl
        have n1 := hNN.cell (o := 1) rfl
        have n2 := hNN.cell (o := 2) rfl
        have n3 := hNN.cell (o := 3) rfl
        have n4 := hNN.cell (o := 4) rfl
        have n5 := hNN.cell (o := 5) rfl
        have n6 := hNN.cell (o := 6) rfl
        have n7 := hNN.cell (o := 7) rfl
        have n8 := hNN.cell (o := 8) rfl
        have v0 : (wr.alloc (.cells #[.string nm, .int .u8 (ty : Int), .bool nl, .int .i64 sc, .int .u8 (dty : Int), .bool dnl, .int .i64 dn, .string dtx, .bool db] 78)).cell? ⟨bv, ov + k * 5, none⟩ = _ := cellk hBx (hv 0 _ rfl)
        have v1 := cellk hBx (hv 1 _ rfl)
        have v2 := cellk hBx (hv 2 _ rfl)
        have v3 := cellk hBx (hv 3 _ rfl)
        have v4 := cellk hBx (hv 4 _ rfl)
        have hBn : Below W.heap.size W (wr.alloc (.cells #[.string nm, .int .u8 (ty : Int), .bool nl, .int .i64 sc, .int .u8 (dty : Int), .bool dnl, .int .i64 dn, .string dtx, .bool db] 78)).drew := below_drew (hB.alloc hB.size _)
        have hfi := fits_v nm ty nl sc ⟨dty, dnl, dn, dtx, db⟩ vv hsz _ (hEW.below hBn)
        simp only at hfi hhit hzn
        generalize fitsP ty nl vv = fk at *
        replace hfi := Lib.hid hfi
        replace hhit := Lib.hid hhit
        replace hzn := Lib.hid hzn
        replace hBn := Lib.hid hBn
        clear hc hv fa fv hB hNN hBx hz
        go_upto_region 6 with fail
        refine region_tail 5 (by kernel_rfl) (by kernel_rfl) ?_
        simp only [List.take_succ_cons, List.take_zero, List.drop_succ_cons, List.drop_zero]
        repeat still_step
        refine wpStill_nil ?_
        go_wp2_with fail
        refine hfi.out.mono ?_
        rintro e w2 ⟨rfl, hB2⟩
        have hBo := hBn.out.trans (hB2.mono hBn.out.size)
        clear hB2 hBn n0 n1 n2 n3 n4 n5 n6 n7 n8 c0 c1 c2 c3 c4 c5 c6 c7 c8 v0 v1 v2 v3 v4
        by_cases hf0 : fk = 0
        · have d1 : ((fk : Int) != 0) = false := by simp [hf0]
          have hz2 := hzn.out hf0
          replace hz2 := Lib.hid hz2
          replace hBo := Lib.hid hBo
          replace hf0 := Lib.hid hf0
          clear hhit hzn
          go_wp2_with fail
          go_roundw
          case rel => exact ⟨k + 1, by omega, by go_num, hz2.out, hBo.out⟩
          case measure => simp [RowKit.intOf]; omega
        · have d1 : ((fk : Int) != 0) = true := by simp [hf0]
          have hf := hfin.out fk w2 (by rw [hrowP.out]; exact (hhit.out hf0).symm) hBo
          replace hf := Lib.hid hf
          replace hf0 := Lib.hid hf0
          clear hhit hzn hBo
          go_wp2_with fail
          first | exact hf.out | (go_ret; exact hf.out)
      · have hkI : ¬ (k : Int) < n := by omega
        have hke : k = n := by omega
        have hf := hfin.out 0 wr (by rw [hrowP.out]; exact (fitsGo_all cs l (by have := hnn.out; have := hmm.out; have := hnm.out; omega) (by have := hnn.out; rw [← this, ← hke]; exact hz)).symm) hB
        replace hf := Lib.hid hf
        clear hz hB hke
        go_wp2_with fail
        first | exact hf.out | (go_ret; exact hf.out)
  · have dI : ((m : Int) != (n : Int)) = true := by rw [bne_nat]; simp [hnm]
    have hf := hfin.out 1 w1 (by unfold rowP; rw [if_pos (by have := hnn.out; have := hmm.out; omega)]) hB1
    replace hf := Lib.hid hf
    replace hnm := Lib.hid hnm
    clear hB1 hT1 hfin
    go_wp2_with fail
    first | exact hf.out | (go_ret; exact hf.out)
end Go.Proofs.YtpjbcadelmjmfaaGreatDoor
