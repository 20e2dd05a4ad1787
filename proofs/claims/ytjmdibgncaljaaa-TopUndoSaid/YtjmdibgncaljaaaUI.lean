/- Walks: the undo log's setCount, Saved. -/
import Derived.Test.YtjmdibgncaljaaaUH
namespace Go.Proofs.Ytjmdibgncaljaaa
open Go.RowKit Go.Lib Dev Go.BigFrame
variable {w : World} {F : Own} {o T : Nat} {L : Lay} {R : Dv} {lb : Nat}
theorem usetcount_any {tb : Nat} (hg : LogAt w lb tb) (n : Nat) (hn : n ≤ 1000) : Calls Try.prog 69 #[.pointer (some ⟨lb, 0, none⟩), .int .i64 (n : Int)] w (StoP w [(0, n)]) := by
  obtain ⟨W1, hW1⟩ : ∃ W1, W1 = w.alloc (.cells #[.int .u64 0, .int .u64 (n : Int)] 133) := ⟨_, rfl⟩
  have hb1 : Below w.heap.size w W1 := by rw [hW1]; exact (Below.refl _ _).alloc (Nat.le_refl _) _
  have hB : Has W1 w.heap.size [.int .u64 0, .int .u64 (n : Int)] 133 := by rw [hW1]; exact Has.new w _ _
  have hc := ustores_any [(0, n)] (by simp) (by simp) (some ⟨w.heap.size, 0, none⟩) 1 W1 ⟨_, _, rfl, .inr ⟨w.heap.size, 0, rfl, fun j u hj => by rw [Nat.zero_add]; exact hB.cell hj⟩⟩
  have hfin : ∀ e w', StoP W1 [(0, n)] e w' → StoP w [(0, n)] e w' := fun e w' ⟨oa, oc, fl, h1, h2, h3, h4, h5, h6⟩ => ⟨oa, oc, fl, h1, h2, h3, h4, hb1.trans (h5.mono hb1.size), h6⟩
  have hre : ∀ e w', StoP W1 [(0, n)] e w' → (∃ v, e = .returned v) ∧ StoP w [(0, n)] e w' := fun e w' h => ⟨by obtain ⟨oa, oc, fl, h1, _⟩ := h; exact ⟨_, h1⟩, hfin e w' h⟩
  have c1 := Has.cell hg (o := 1) rfl
  generalize StoP w [(0, n)] = post at hfin hre ⊢
  replace hc := Lib.hid (hc.mono hre)
  replace hW1 := Lib.hid hW1.symm
  clear hfin hre hB hb1 hg
  go_enter Try.func69, Try.ntmps69
  go_wp2_with fail
  rw [hW1.out]
  refine hc.out.mono ?_
  rintro e w' ⟨⟨v, rfl⟩, h⟩
  replace h := Lib.hid h
  go_wp2_with fail
  first | exact h.out | (go_ret; exact h.out)
def cntV2 (R : Dv) : Nat := if 8 < valueP R 0 then 0 else valueP R 0
/-- The entries that the log of a device has. -/
def savedV (R : Dv) : List (Nat × Nat) := (List.range (cntV2 R)).map fun i => (valueP R (64 + 16 * i), valueP R (72 + 16 * i))
theorem cntV2_le (R : Dv) : cntV2 R ≤ 8 := by unfold cntV2; split <;> omega
theorem savedV_len (R : Dv) : (savedV R).length = cntV2 R := by unfold savedV; rw [List.length_map, List.length_range]
theorem savedV_get (R : Dv) {i : Nat} (h : i < cntV2 R) : (savedV R)[i]? = some (valueP R (64 + 16 * i), valueP R (72 + 16 * i)) := by
  unfold savedV; rw [List.getElem?_map, List.getElem?_range h]; rfl
theorem wcells_snoc (l : List (Nat × Nat)) (p : Nat × Nat) : wcells (l ++ [p]) = wcells l ++ [.int .u64 (p.1 : Int), .int .u64 (p.2 : Int)] := by simp [wcells]
theorem m_nil (a : Addr) (w : World) : (nilAhead 338 67 (.pointer (some a)) "Load").run Try.prog w = .ok (some false) w := by kernel_rfl
theorem infoWr2 : (Try.prog.info? 133).map (fun i => (i.zero, i.size, i.bytes)) = some (some (.agg #[.int .u64 0, .int .u64 0]), 2, 16) := by kernel_rfl
set_option maxHeartbeats 8000000 in
set_option maxRecDepth 100000 in
theorem usaved_any (h : DevSt w F o L T R) (hL : Live R) (hl : R.lines.length = 10) (hg : LogAt w lb (L.tb 0)) : Calls Try.prog 29 #[.pointer (some ⟨lb, 0, none⟩)] w (RowPost w 133 2 (savedV R).length (wcells (savedV R))) := by
  generalize hpost : RowPost w 133 2 (savedV R).length (wcells (savedV R)) = post
  have hfin : ∀ sa sc w', RowB w 133 2 (savedV R).length (wcells (savedV R)) sa sc w' → post (.returned (.slice sa (savedV R).length sc)) w' := fun sa sc w' h => by rw [← hpost]; exact ⟨sa, sc, rfl, h⟩
  clear hpost
  have hload : ∀ wx, Below w.heap.size w wx → ∀ off : Nat, off % 8 = 0 → off < 640 → Calls Try.prog 63 #[.pointer (some ⟨L.tb 0, 0, none⟩), .int .u64 (off : Int)] wx (RS wx (.int .u64 ((valueP R off : Nat) : Int))) := by
    intro wx hb off h8 h6
    have h2 : DevSt wx F o L T R := h.below hb
    exact load_live (t := 0) h2 hL (by decide) h8 (by rw [hl]; exact h6) (by rw [hl]; decide)
  have hoff : ∀ wx, Below w.heap.size w wx → ∀ i : Nat, i < 1000 → Calls Try.prog 66 #[.pointer (some ⟨lb, 0, none⟩), .int .i64 (i : Int)] wx (RS wx (.int .u64 ((64 + 16 * i : Nat) : Int))) := fun wx hb i hi => uoff_any (hg.below hb) i hi
  have hv0 := value_lt h.ok (off := 0) (by omega)
  have hnone := Lib.hid (unone_any hg)
  have hcap := fun wx (hb : Below w.heap.size w wx) => ucap_any (hg.below hb)
  have kg := fun wx (hb : Below w.heap.size w wx) => hg.below hb
  have hms := fun w => m_load ⟨L.tb 0, 0, none⟩ w
  have c0 := Has.cell hg (o := 0) rfl
  clear h
  replace hload := Lib.hid hload
  replace hoff := Lib.hid hoff
  replace hcap := Lib.hid hcap
  replace kg := Lib.hid kg
  replace hfin := Lib.hid hfin
  replace hL := Lib.hid hL
  replace hv0 := Lib.hid hv0
  clear hg hl
  go_enter Try.func29, Try.ntmps29
  go_wp2_with fail
  refine hnone.out.mono ?_
  rintro e w' ⟨rfl, rfl⟩
  go_upto_region 4 with fail
  refine wp_region_quietC (C := fun wx => Below w.heap.size w wx) (by kernel_rfl) (by kernel_rfl) (show Below w.heap.size w w.drew from (Below.refl w.heap.size w).drew) ?_
  iterate 4 (go_big_quiet_want; go_big_quiet_op; first | go_big_quiet_on | (refine ⟨_, fun _ _ => rfl, ?_⟩; go_big_quiet_on))
  go_big_quiet_want; go_big_quiet_op
  refine ⟨.int .u64 0, fun wx hx => ?_, ?_⟩
  · rw [Has.cell (kg.out wx hx) (o := 1) rfl]
    exact ⟨rfl, rfl⟩
  go_big_quiet_on
  go_big_quiet_want; go_big_quiet_op; first | go_big_quiet_on | (refine ⟨_, fun _ _ => rfl, ?_⟩; go_big_quiet_on)
  go_big_quiet_want; go_big_quiet_op
  refine ⟨.func (.method "Load") #[.iface 67 (.pointer (some ⟨L.tb 0, 0, none⟩))] #[], fun wx hx => ?_, ?_⟩
  · rw [m_nil]
    exact ⟨rfl, rfl⟩
  go_big_quiet_on
  go_big_quiet_want; go_big_quiet_op; first | go_big_quiet_on | (refine ⟨_, fun _ _ => rfl, ?_⟩; go_big_quiet_on)
  go_big_quiet_want; go_big_quiet_op
  refine ⟨.int .u64 ((valueP R 0 : Nat) : Int), fun wx hx => (hload.out wx hx 0 (by decide) (by decide)).mono fun e w' h12 => ⟨h12.1, h12.2 ▸ hx⟩, ?_⟩
  go_big_quiet_on
  go_big_quiet_want; go_big_quiet_op; first | go_big_quiet_on | (refine ⟨_, fun _ _ => rfl, ?_⟩; go_big_quiet_on)
  refine wpQuiet_nil ?_
  intro w1 hB1
  obtain ⟨V, hV⟩ : ∃ V, valueP R 0 = V := ⟨_, rfl⟩
  obtain ⟨c, hc⟩ : ∃ c, cntV2 R = c := ⟨_, rfl⟩
  have hcV : c = if 8 < V then 0 else V := by rw [← hc, ← hV]; rfl
  have hc8 : c ≤ 8 := by rw [← hc]; exact cntV2_le R
  have hcap1 := hcap.out w1 hB1
  obtain ⟨z, hz⟩ : ∃ z, decide (8 < V) = z := ⟨_, rfl⟩
  have hzI : decide ((8 : Int) < (V : Int)) = z := by rw [← hz]; congr 1; simp; omega
  have hvs := hv0.out
  rw [hV] at hvs ⊢
  rw [savedV_len, hc] at hfin
  replace hcap1 := Lib.hid hcap1
  replace hcV := Lib.hid hcV
  go_wp2_with fail
  refine hcap1.out.mono ?_
  rintro e w' ⟨rfl, rfl⟩
  go_upto_if 27 with fail
  go_cut [4] (fun s4 wx => s4 = .int .u64 (c : Int) ∧ Below w.heap.size w wx)
  case first =>
    cases z with
    | true =>
      have e0 : c = 0 := by have := hcV.out; rw [if_pos (of_decide_eq_true hz)] at this; exact this
      go_wp2_with fail
      go_meet
      exact ⟨by rw [e0]; rfl, hB1⟩
    | false =>
      have e0 : c = V := by have := hcV.out; rw [if_neg (of_decide_eq_false hz)] at this; exact this
      go_wp2_with fail
      go_meet
      exact ⟨by rw [e0], hB1⟩
  case rest =>
    obtain ⟨rfl, hB⟩ := hcut
    have hst0 := Lib.hid (RowB.nil' hB 133 2)
    have hcw : IntKind.i64.wrap (c : Int) = (c : Int) := IntWalk.i64_in _ (by omega)
    obtain ⟨SV, hSV⟩ : ∃ SV, savedV R = SV := ⟨_, rfl⟩
    have hget : ∀ i, i < c → SV[i]? = some (valueP R (64 + 16 * i), valueP R (72 + 16 * i)) := fun i hi => by rw [← hSV]; exact savedV_get R (by rw [hc]; exact hi)
    have hSl : SV.length = c := by rw [← hSV, savedV_len, hc]
    rw [hSV] at hfin
    replace hget := Lib.hid hget
    replace hSl := Lib.hid hSl
    clear hB hSV hcV hz hzI hcap1 hB1 hV hvs hv0 hnone hcap hc
    clear hL c0
    go_wp2_with fail
    go_loopw [5, 30] (fun s5 s30 wr => ∃ (k : Nat) (oa : Option Addr) (oc : Nat), k ≤ c ∧ s30 = .int .i64 (k : Int) ∧ s5 = .slice oa k oc ∧ RowB w 133 2 k (wcells (SV.take k)) oa oc wr) (fun _ s30 _ => c - (RowKit.intOf s30).toNat)
    case atStart => exact ⟨0, none, 0, by omega, rfl, rfl, hst0.out⟩
    case round =>
      clear hst0
      obtain ⟨k, oa, oc, hk, rfl, rfl, hP⟩ := hrel
      by_cases hlt : ¬ (k < c)
      · have hkn : k = c := by omega
        subst hkn
        rw [List.take_of_length_le (Nat.le_of_eq hSl.out)] at hP
        have hf := Lib.hid (hfin.out _ _ _ hP)
        have kd : decide ((k : Int) < (k : Int)) = false := decide_eq_false (by omega)
        have kk1 : ¬ (k : Int) < (k : Int) := by omega
        clear hP
        go_wp2_with fail
        first | exact hf.out | (go_ret; exact hf.out)
      · replace hlt := Classical.not_not.1 hlt
        have kd : decide ((k : Int) < (c : Int)) = true := decide_eq_true (by omega)
        have k1 : (k : Int) < (c : Int) := by omega
        have kw := Lib.hid (show wrap64 ((k : Int) + 1) = ((k + 1 : Nat) : Int) from by unfold wrap64; omega)
        have hoff1 := Lib.hid (hoff.out wr hP.b k (by omega))
        have hl1 := Lib.hid (hload.out wr hP.b (64 + 16 * k) (by omega) (by omega))
        have hl2 := Lib.hid (hload.out wr hP.b (72 + 16 * k) (by omega) (by omega))
        have o8 : IntKind.u64.wrap (((64 + 16 * k : Nat) : Int) + 8) = ((72 + 16 * k : Nat) : Int) := by
          have e : ((64 + 16 * k : Nat) : Int) + 8 = ((72 + 16 * k : Nat) : Int) := by omega
          rw [e]; exact u64w (by omega)
        obtain ⟨x, hx⟩ : ∃ x, valueP R (64 + 16 * k) = x := ⟨_, rfl⟩
        obtain ⟨y, hy⟩ : ∃ y, valueP R (72 + 16 * k) = y := ⟨_, rfl⟩
        have htk : SV.take (k + 1) = SV.take k ++ [(x, y)] := by rw [List.take_add_one, hget.out k hlt, hx, hy]; rfl
        rw [hx] at hl1
        rw [hy] at hl2
        obtain ⟨f1, hf1⟩ : ∃ f1, (64 + 16 * k : Nat) = f1 := ⟨_, rfl⟩
        obtain ⟨f2, hf2⟩ : ∃ f2, (72 + 16 * k : Nat) = f2 := ⟨_, rfl⟩
        rw [hf1] at hoff1 hl1 o8
        rw [hf2] at hl2 o8
        obtain ⟨PS, hPS⟩ : ∃ PS, SV.take k = PS := ⟨_, rfl⟩
        rw [hPS] at hP htk
        have hb3 := (Below.refl wr.heap.size wr).alloc (Nat.le_refl _) (.cells #[.int .u64 (x : Int), .int .u64 (y : Int)] 133)
        have hP3 := hP.below hb3
        have hN3 := Has.new wr [.int .u64 (x : Int), .int .u64 (y : Int)] 133
        have ho3 := hP3.o
        have hby3 : (k + 1) * 16 ≤ 140737488355328 := by omega
        replace hP3 := Lib.hid hP3
        replace htk := Lib.hid htk
        clear hP hb3 hx hy hf1 hf2 hPS
        go_wp2_with fail
        refine hoff1.out.mono ?_
        rintro e w' ⟨rfl, rfl⟩
        go_wp2_with fail
        refine hl1.out.mono ?_
        rintro e w' ⟨rfl, rfl⟩
        go_wp2_with fail
        refine hl2.out.mono ?_
        rintro e w' ⟨rfl, rfl⟩
        go_wp2_with (at_builtin; refine wpList_app rfl (.tmp 36) (.tmp 45) 88 rfl 133 (.agg #[.int .u64 0, .int .u64 0]) 2 16 Try.underlying88 infoWr2 rfl (by decide) (by decide) oa k oc (wcells PS) (by exact ho3) rfl _ 1 1 [.int .u64 (x : Int), .int .u64 (y : Int)] rfl rfl (by exact newsIn hN3) (by simp [Value.oneCell']) (by exact hby3) ?_)
        intro oa' oc' w6 own6 only6 fresh6
        have hP6 : RowB w 133 2 (k + 1) (wcells (SV.take (k + 1))) oa' oc' w6 := by
          rw [htk.out, wcells_snoc]
          exact hP3.out.app own6 only6 (fun j hj => by have := fresh6 j hj; simpa using this)
        replace hP6 := Lib.hid hP6
        clear own6 only6 fresh6 ho3 hN3
        go_wp2_with fail
        first | rw [kw.out] | skip
        go_roundw
        case rel => exact ⟨k + 1, oa', oc', by omega, rfl, rfl, hP6.out⟩
        case measure => simp [RowKit.intOf]; try omega
end Go.Proofs.Ytjmdibgncaljaaa
