/- Walks: the law's usable. -/
import Derived.Test.YtgnoikfmhncbmaaGreatDoorB1
set_option linter.unusedVariables false
set_option linter.unusedSimpArgs false
namespace Go.Proofs.YtgnoikfmhncbmaaGreatDoor
open Go.RowKit
/-- A bound is none, or a valid value. -/
def okB (v : RV) : Bool := v.nl || decide (cmpE v v = 0)
set_option maxHeartbeats 8000000 in
set_option maxRecDepth 100000 in
theorem lusable_any (l : List RV) (hl : ∀ v ∈ l, v.tx.size ≤ 140737488351232) (hn : l.length ≤ 1000000) (a0 : Option Addr) (cap0 : Nat) (w : World) (hE : Env w) (rd : Rd w (.slice a0 l.length cap0) l.length (vCells l)) :
    Calls Tryz.prog 20 #[.slice a0 l.length cap0] w (RPost w (.bool (l.all okB))) := by
  generalize hpost : RPost w (.bool (l.all okB)) = post
  have hf : ∀ r w', l.all okB = r → Below w.heap.size w w' → post (.returned (.bool r)) w' := fun r w' h1 h2 => by rw [← hpost, h1]; exact ⟨rfl, h2⟩
  clear hpost
  have hcell : ∀ k, k < l.length → ∃ b off, a0 = some ⟨b, off, none⟩ ∧ ∀ wx, Below w.heap.size w wx → ∀ j u, (l.getD k RV0).cells[j]? = some u → wx.cell? ⟨b, off + k * 5 + j, none⟩ = some u := fun k hk => by
    obtain ⟨b, off, cap, hv, hc⟩ := rd.cells (by omega)
    simp only [Value.slice.injEq] at hv
    refine ⟨b, off, hv.1, fun wx hb j u hj => ?_⟩
    have := cellk hb (hc _ _ (vc_get hk j u hj))
    rw [← Nat.add_assoc] at this
    exact this
  have hcmp : ∀ k, k < l.length → ∀ wx, Below w.heap.size w wx → Calls Tryz.prog 43 #[(l.getD k RV0).val, (l.getD k RV0).val] wx (RPost wx (.tuple #[.int .i64 (cmpX (l.getD k RV0) (l.getD k RV0)), .int .i64 ((cmpE (l.getD k RV0) (l.getD k RV0) : Nat) : Int)])) := fun k hk wx hb => by
    have hm : l.getD k RV0 ∈ l := by rw [List.getD, List.getElem?_eq_getElem hk]; exact List.getElem_mem hk
    exact cmp_c _ _ (hl _ hm) (hl _ hm) wx (hE.below hb)
  have hbad : ∀ k, k < l.length → okB (l.getD k RV0) = false → l.all okB = false := fun k hk h => by
    rw [List.all_eq_false]
    exact ⟨l.getD k RV0, by rw [List.getD, List.getElem?_eq_getElem hk]; exact List.getElem_mem hk, by rw [h]; simp⟩
  have hall : (∀ k, k < l.length → okB (l.getD k RV0) = true) → l.all okB = true := fun h => by
    rw [List.all_eq_true]
    intro x hx
    obtain ⟨k, hk, rfl⟩ := List.mem_iff_getElem.1 hx
    have := h k hk
    rwa [List.getD, List.getElem?_eq_getElem hk] at this
  generalize l.all okB = res at *
  obtain ⟨n, hnn⟩ : ∃ n, l.length = n := ⟨_, rfl⟩
  rw [hnn] at hcell hcmp hbad hall hn ⊢
  generalize l.getD = G at *
  clear rd hE hl hnn
  replace hf := Lib.hid hf
  replace hcell := Lib.hid hcell
  replace hcmp := Lib.hid hcmp
  replace hbad := Lib.hid hbad
  replace hall := Lib.hid hall
  replace hn := Lib.hid hn
  go_enter Tryz.func20, Tryz.ntmps20
  go_wp2_with fail
  go_loopw [9] (fun i wr => ∃ k : Nat, k ≤ n ∧ i = .int .i64 (k : Int) ∧ Below w.heap.size w wr ∧ ∀ j, j < k → okB (G j RV0) = true) (fun i _ => n - (RowKit.intOf i).toNat)
  case atStart => exact ⟨0, by omega, rfl, Below.refl _ _, fun j h => by omega⟩
  case round =>
    obtain ⟨k, hk, rfl, hB, hok⟩ := hrel
    by_cases hlt : k < n
    · have k1 : (k : Int) < (n : Int) := by omega
      have hn3 := hn.out
      have kw := Lib.hid (show wrap64 ((k : Int) + 1) = ((k + 1 : Nat) : Int) from by unfold wrap64; omega)
      have kd : decide ((k : Int) < (n : Int)) = true := decide_eq_true k1
      have k0 : (0 : Int) ≤ (k : Int) := by omega
      obtain ⟨b, off, rfl, hc⟩ := hcell.out k hlt
      have hcm := hcmp.out k hlt
      have hbd := hbad.out k hlt
      have hokk : ∀ j, j < k + 1 → okB (G k RV0) = true → okB (G j RV0) = true := fun j hj h => by
        rcases Nat.lt_or_ge j k with h1 | h1
        · exact hok j h1
        · have : j = k := by omega
          rw [this]; exact h
      obtain ⟨⟨tv, nv, iv, xv, bv⟩, hg⟩ : ∃ v, G k RV0 = v := ⟨_, rfl⟩
      rw [hg] at hcm hbd hokk
      have hc2 := hc wr hB
      rw [hg] at hc2
      have c0 : wr.cell? ⟨b, off + k * 5, none⟩ = some (.int .u8 (tv : Int)) := hc2 0 _ rfl
      have c1 := hc2 1 _ rfl
      have c2 := hc2 2 _ rfl
      have c3 := hc2 3 _ rfl
      have c4 := hc2 4 _ rfl
      obtain ⟨W1, hW1⟩ : ∃ W1, W1 = wr.alloc (.cells #[.int .u8 (tv : Int), .bool nv, .int .i64 iv, .string xv, .bool bv] 28) := ⟨_, rfl⟩
      have HB : Has W1 wr.heap.size [.int .u8 (tv : Int), .bool nv, .int .i64 iv, .string xv, .bool bv] 28 := by rw [hW1]; exact Has.new wr _ _
      have hb1 : Below w.heap.size w W1 := by rw [hW1]; exact hB.alloc hB.size _
      have hc1 := hcm W1 hb1
      obtain ⟨cx, hcx⟩ : ∃ z, cmpX ⟨tv, nv, iv, xv, bv⟩ ⟨tv, nv, iv, xv, bv⟩ = z := ⟨_, rfl⟩
      obtain ⟨ce, hce⟩ : ∃ z, cmpE ⟨tv, nv, iv, xv, bv⟩ ⟨tv, nv, iv, xv, bv⟩ = z := ⟨_, rfl⟩
      have hov : okB ⟨tv, nv, iv, xv, bv⟩ = (nv || decide (ce = 0)) := by rw [← hce]; rfl
      rw [hcx, hce] at hc1
      rw [hov] at hbd hokk
      dsimp only [RV.val] at hc1
      replace hW1 := Lib.hid hW1.symm
      replace hc1 := Lib.hid hc1
      clear hc hc2 hcm hg hB hcx hce hov hok
      have d0 := HB.cell (o := 0) rfl
      have d1 := HB.cell (o := 1) rfl
      have d2 := HB.cell (o := 2) rfl
      have d3 := HB.cell (o := 3) rfl
      have d4 := HB.cell (o := 4) rfl
      replace HB := Lib.hid HB
      replace hb1 := Lib.hid hb1
      replace hbd := Lib.hid hbd
      replace hokk := Lib.hid hokk
      go_upto_region 4 with fail
      rw [hW1.out]
      clear c0 c1 c2 c3 c4
      go_wp2_with fail
      refine hc1.out.mono ?_
      rintro e w2 ⟨rfl, hb2⟩
      have HB2 := HB.out.only (Only.of_below hb2) (Nat.not_le.2 HB.out.lt)
      have hb02 := hb1.out.trans (hb2.mono hb1.out.size)
      clear d0 d1 d2 d3 d4 HB hb1 hb2 hc1
      have d1 := HB2.cell (o := 1) rfl
      replace HB2 := Lib.hid HB2
      replace hb02 := Lib.hid hb02
      cases nv with
      | true =>
        have hrel2 := Lib.hid (show ∀ j, j < k + 1 → okB (G j RV0) = true from fun j hj => hokk.out j hj rfl)
        clear hbd hokk
        go_wp2_with fail
        go_roundw
        case rel => refine ⟨k + 1, by omega, ?_, hb02.out, hrel2.out⟩; first | rfl | go_num
        case measure => simp [RowKit.intOf]; omega
      | false =>
        by_cases h0 : ce = 0
        · subst h0
          have e0 : (((0 : Nat) : Int) != 0) = false := rfl
          have hrel2 := Lib.hid (show ∀ j, j < k + 1 → okB (G j RV0) = true from fun j hj => hokk.out j hj rfl)
          clear hbd hokk
          go_wp2_with fail
          go_roundw
          case rel => refine ⟨k + 1, by omega, ?_, hb02.out, hrel2.out⟩; first | rfl | go_num
          case measure => simp [RowKit.intOf]; omega
        · have e0 : ((ce : Int) != 0) = true := by simp; exact h0
          have hfin := Lib.hid (hf.out false w2 (hbd.out (by simp [h0])) hb02.out)
          replace h0 := Lib.hid h0
          clear hbd hokk
          go_wp2_with fail
          exact hfin.out
    · have hkn : k = n := by omega
      subst hkn
      have k1 : ¬ (k : Int) < (k : Int) := by omega
      have kd : decide ((k : Int) < (k : Int)) = false := decide_eq_false k1
      have hfin := Lib.hid (hf.out true wr (hall.out (fun j hj => hok j hj)) hB)
      replace hB := Lib.hid hB
      replace hok := Lib.hid hok
      go_wp2_with fail
      exact hfin.out
end Go.Proofs.YtgnoikfmhncbmaaGreatDoor
