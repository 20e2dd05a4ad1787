/- PlanMisses: for every input the law returns true, and each argument reads afterwards as it read before. The tied card: the listed variables of the library hold what the program's text lays. No other condition. -/
import Derived.Test.YtgnoikfmhncbmaaGreatDoorRows
import Derived.Test.YtgnoikfmhncbmaaGreatDoorCards
import Derived.Test.YtgnoikfmhncbmaaGreatDoorTie
import Derived.Test.YtgnoikfmhncbmaaGreatDoorMm
import Derived.Test.YtgnoikfmhncbmaaGreatDoorFm
set_option linter.unusedVariables false
set_option linter.unusedSimpArgs false
namespace Go.Proofs.YtgnoikfmhncbmaaGreatDoor.planMisses
open Go.ChangeShapes Go.WideShapes Go.ChangeAt Go.RowKit Go.Deep
set_option linter.unusedVariables false

set_option maxRecDepth 100000 in
theorem lifted (os : Os) (started : os.Started) (H : Type) (enc : TypeId × Value → H) :
    ReturnsInHanded {} Tryz.checked os 7 .any (fun w args => (Rows.planMissesSpec.pre enc Tryz.prog Tryz.f7 Rows.planMissesRow.domain false w args ∧ laidMetH Tryz.prog seatLaid w) ∧ sizedMet enc Tryz.prog Tryz.f7 (OpenSpec.ofChange Rows.planMissesSpec) false w args)
      (Rows.planMissesSpec.post enc Tryz.prog Tryz.f7 false true false false) := by
  refine returns_all (C := Tryz.checked) (X := fun w => laidMetH Tryz.prog seatLaid w) (fun _ _ hh h => h.of_heap hh) own started (by kernel_rfl) Tryz.func7
    (ChangeSpec.witness_shaped (enc := enc) (C := Tryz.checked) (os := os) (X := fun w _ => laidMetH Tryz.prog seatLaid w) false (World.laidAll Tryz.prog os seatLaid) #[.int .u16 0, .agg #[.int .u8 0, .string ⟨#[]⟩, .slice none 0 0, .slice none 0 0, .string ⟨#[]⟩, .bool false, .int .i64 0], .agg #[.int .u32 0, .int .i32 0, .int .i32 0, .string ⟨#[]⟩, .bool false, .int .u8 0]] 8 (World.laidAll_os _ _ _)
      (World.shaped_of_ZipB (by kernel_rfl) (by kernel_rfl)) (by kernel_rfl) (by kernel_rfl) (by kernel_rfl)
      (by rw [MakeChecks.laidMetH_plain _ _ _ (by kernel_rfl)]; exact laidMet_laidAll _ (by kernel_rfl) (by kernel_rfl))) ?_
  intro W base args ds gs before hval0 hW hsz0 hL hsh
  have hval : ∀ (j : Nat) t v, Tryz.f7.params[j]? = some t → args[j]? = some v → Value.okWide Tryz.prog W .any base t v := hval0
  have hW' := hW
  obtain ⟨p, q, hA0, hV, rfl, _, _⟩ := hW
  have hA : DataW.TrodAll enc Tryz.prog W 0 (fun _ => true) true Tryz.f7.params.toList args.toList ds p := hA0
  rw [Tryz.params7] at hA hval
  obtain ⟨v0, v1, v2, d0, d1, d2, p0, p1, p2, rfl, rfl, rfl, h0, h1, h2⟩ := trodAll_three hA
  obtain ⟨rfl, rfl⟩ := trodVars_none hV
  have lt0 : ∀ x ∈ p0, x.block < W.heap.size := by obtain ⟨m, hm⟩ := h0; exact DataW.trod_lt m _ _ _ hm
  have lt1 : ∀ x ∈ p1, x.block < W.heap.size := by obtain ⟨m, hm⟩ := h1; exact DataW.trod_lt m _ _ _ hm
  have lt2 : ∀ x ∈ p2, x.block < W.heap.size := by obtain ⟨m, hm⟩ := h2; exact DataW.trod_lt m _ _ _ hm
  obtain ⟨n0, rfl, hn0⟩ := open_u16 (hval 0 61 v0 rfl rfl) h0
  obtain ⟨k1, tb1, ac1, cc1, cl1, aw1, cw1, nl1, od1, ds1, lm1, hcl1, rdc1, hcm1, hnl1, rdn1, rfl⟩ := open_stmt (hval 1 76 v1 rfl rfl) h1 (sized_at hsz0 (j := 1) (t := 76) rfl rfl)
  obtain ⟨id2, ra2, rb2, rs2, rc2, nu2, hid2, hra2, hrb2, hrs2, hnu2, rfl⟩ := open_lrow (hval 2 53 v2 rfl rfl) h2
  simp only [List.append_nil] at hW'
  refine (misses_walk n0 hn0 k1 tb1 cl1 hcl1 hcm1 ac1 cc1 nl1 hnl1 aw1 cw1 od1 ds1 lm1 id2 hid2 ra2 rb2 rs2 rc2 nu2 hra2 hrb2 hrs2 hnu2 W (env_of hL hsh) rdc1 rdn1).mono fun e W' ⟨he, bel⟩ => ?_
  subst he
  exact ⟨_, rfl, _, _, _, [], _, [], hW', trodAll_mk1 (shut_bool Tryz.underlying4 _), (trodAll_mk3 (Below.trod laidOut (by kernel_rfl) (of_decide_eq_true (by kernel_rfl)) h0 bel lt0) (Below.trod laidOut (by kernel_rfl) (of_decide_eq_true (by kernel_rfl)) h1 bel lt1) (Below.trod laidOut (by kernel_rfl) (of_decide_eq_true (by kernel_rfl)) h2 bel lt2)), rfl, bel.frame _, fun h => by cases h⟩

theorem over : Rows.PlanMissesSaid :=
  OpenClaim.holds_of_wide 7 Tryz.f7 rfl rfl rfl rfl rfl rfl rfl ⟨rfl, rfl, rfl, rfl, rfl⟩ rfl rfl rfl rfl rfl (by kernel_rfl) Tryz.func7 (by kernel_rfl)
    (of_decide_eq_true (by kernel_rfl)) (by unfold Func.isWrapper; first | (rw [if_pos (by decide +kernel)]; kernel_rfl) | (rw [if_neg (by decide +kernel)]; exact ⟨rfl, rfl⟩))
    (fun os started H enc _ => lifted os started H enc)

/-- THE STATEMENT -/
theorem proved : Rows.PlanMissesCardSaid :=
  Claim7.holds_tied_plain_at .later [] [.data, .data, .data, .data, .pinned] true (true, "6ecf1761df921cd6130d05390afe0c799ecd26dddc4c753377ab9a11a70384b5") false over (fun _ h => by cases h) (by kernel_rfl) (fun _ h => by cases h) planMisses_row_tie rfl ⟨rfl, rfl⟩ (by kernel_rfl) rfl
    (fun f fn hf hfn => by
      obtain rfl : f = 7 := Option.some.inj ((show Tryz.prog.funcNamed "bedrock/bedrocklaw44.PlanMisses" = some 7 by kernel_rfl).symm.trans hf) |>.symm
      obtain rfl : fn = Tryz.f7 := (Option.some.inj (Tryz.func7.symm.trans hfn)).symm
      exact ⟨by kernel_rfl, fun j t ht => by
        rw [Tryz.params7] at ht
        have hm : t ∈ [61, 76, 53] := by simpa using Array.mem_of_getElem? ht
        have hall : ([61, 76, 53].all fun u => !Tryz.prog.wantsStandIn u) = true := by kernel_rfl
        exact (show Tryz.prog.wantsStandIn t = false by simpa using List.all_eq_true.1 hall t hm)⟩)
    (by kernel_rfl)
#print axioms proved
end Go.Proofs.YtgnoikfmhncbmaaGreatDoor.planMisses
