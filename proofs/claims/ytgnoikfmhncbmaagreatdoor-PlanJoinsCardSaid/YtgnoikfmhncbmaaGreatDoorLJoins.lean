/- PlanJoins: for every input the law returns true, and each argument reads afterwards as it read before. The tied card: the listed variables of the library hold what the program's text lays. No other condition. -/
import Derived.Test.YtgnoikfmhncbmaaGreatDoorRows
import Derived.Test.YtgnoikfmhncbmaaGreatDoorCards
import Derived.Test.YtgnoikfmhncbmaaGreatDoorTie
import Derived.Test.YtgnoikfmhncbmaaGreatDoorJ1
import Derived.Test.YtgnoikfmhncbmaaGreatDoorFw
set_option linter.unusedVariables false
set_option linter.unusedSimpArgs false
namespace Go.Proofs.YtgnoikfmhncbmaaGreatDoor.planJoins
open Go.ChangeShapes Go.WideShapes Go.ChangeAt Go.RowKit Go.Deep
set_option linter.unusedVariables false

set_option maxRecDepth 100000 in
theorem lifted (os : Os) (started : os.Started) (H : Type) (enc : TypeId × Value → H) :
    ReturnsInHanded {} Tryz.checked os 5 .any (fun w args => (Rows.planJoinsSpec.pre enc Tryz.prog Tryz.f5 Rows.planJoinsRow.domain false w args ∧ laidMetH Tryz.prog seatLaid w) ∧ sizedMet enc Tryz.prog Tryz.f5 (OpenSpec.ofChange Rows.planJoinsSpec) false w args)
      (Rows.planJoinsSpec.post enc Tryz.prog Tryz.f5 false true false false) := by
  refine returns_all (C := Tryz.checked) (X := fun w => laidMetH Tryz.prog seatLaid w) (fun _ _ hh h => h.of_heap hh) own started (by kernel_rfl) Tryz.func5
    (ChangeSpec.witness_shaped (enc := enc) (C := Tryz.checked) (os := os) (X := fun w _ => laidMetH Tryz.prog seatLaid w) false (World.laidAll Tryz.prog os seatLaid) #[.slice none 0 0, .slice none 0 0, .agg #[.int .u32 0, .int .i32 0, .int .i32 0, .string ⟨#[]⟩, .bool false, .int .u8 0]] 8 (World.laidAll_os _ _ _)
      (World.shaped_of_ZipB (by kernel_rfl) (by kernel_rfl)) (by kernel_rfl) (by kernel_rfl) (by kernel_rfl)
      (by rw [MakeChecks.laidMetH_plain _ _ _ (by kernel_rfl)]; exact laidMet_laidAll _ (by kernel_rfl) (by kernel_rfl))) ?_
  intro W base args ds gs before hval0 hW hsz0 hL hsh
  have hval : ∀ (j : Nat) t v, Tryz.f5.params[j]? = some t → args[j]? = some v → Value.okWide Tryz.prog W .any base t v := hval0
  have hW' := hW
  obtain ⟨p, q, hA0, hV, rfl, _, _⟩ := hW
  have hA : DataW.TrodAll enc Tryz.prog W 0 (fun _ => true) true Tryz.f5.params.toList args.toList ds p := hA0
  rw [Tryz.params5] at hA hval
  obtain ⟨v0, v1, v2, d0, d1, d2, p0, p1, p2, rfl, rfl, rfl, h0, h1, h2⟩ := trodAll_three hA
  obtain ⟨rfl, rfl⟩ := trodVars_none hV
  have lt0 : ∀ x ∈ p0, x.block < W.heap.size := by obtain ⟨m, hm⟩ := h0; exact DataW.trod_lt m _ _ _ hm
  have lt1 : ∀ x ∈ p1, x.block < W.heap.size := by obtain ⟨m, hm⟩ := h1; exact DataW.trod_lt m _ _ _ hm
  have lt2 : ∀ x ∈ p2, x.block < W.heap.size := by obtain ⟨m, hm⟩ := h2; exact DataW.trod_lt m _ _ _ hm
  obtain ⟨a0, len0, cap0, rfl⟩ := okWide_slice Tryz.underlying22 (hval 0 22 v0 rfl rfl)
  obtain ⟨l0, ln0, ok0, rd0, lm0⟩ : ∃ l : List Nd, l.length = len0 ∧ (∀ c ∈ l, c.Fit) ∧ Rd W (.slice a0 len0 cap0) len0 (ndCells l) ∧ len0 ≤ 9223372036854775807 := by
    obtain ⟨fuel, hf⟩ := h0
    exact open_nodes hf (sized_at hsz0 (j := 0) (t := 22) rfl rfl)
  subst ln0
  obtain ⟨a1, len1, cap1, rfl⟩ := okWide_slice Tryz.underlying22 (hval 1 22 v1 rfl rfl)
  obtain ⟨l1, ln1, ok1, rd1, lm1⟩ : ∃ l : List Nd, l.length = len1 ∧ (∀ c ∈ l, c.Fit) ∧ Rd W (.slice a1 len1 cap1) len1 (ndCells l) ∧ len1 ≤ 9223372036854775807 := by
    obtain ⟨fuel, hf⟩ := h1
    exact open_nodes hf (sized_at hsz0 (j := 1) (t := 22) rfl rfl)
  subst ln1
  obtain ⟨id2, ra2, rb2, rs2, rc2, nu2, hid2, hra2, hrb2, hrs2, hnu2, rfl⟩ := open_lrow (hval 2 53 v2 rfl rfl) h2
  simp only [List.append_nil] at hW'
  refine (joins_walk l0 l1 ok0 ok1 a0 a1 cap0 cap1 id2 ra2 rb2 rs2 rc2 nu2 hra2 hrb2 hrs2 hnu2 W (env_of hL hsh) rd0 rd1).mono fun e W' ⟨he, bel⟩ => ?_
  subst he
  exact ⟨_, rfl, _, _, _, [], _, [], hW', trodAll_mk1 (shut_bool Tryz.underlying4 _), (trodAll_mk3 (Below.trod laidOut (by kernel_rfl) (of_decide_eq_true (by kernel_rfl)) h0 bel lt0) (Below.trod laidOut (by kernel_rfl) (of_decide_eq_true (by kernel_rfl)) h1 bel lt1) (Below.trod laidOut (by kernel_rfl) (of_decide_eq_true (by kernel_rfl)) h2 bel lt2)), rfl, bel.frame _, fun h => by cases h⟩

theorem over : Rows.PlanJoinsSaid :=
  OpenClaim.holds_of_wide 5 Tryz.f5 rfl rfl rfl rfl rfl rfl rfl ⟨rfl, rfl, rfl, rfl, rfl⟩ rfl rfl rfl rfl rfl (by kernel_rfl) Tryz.func5 (by kernel_rfl)
    (of_decide_eq_true (by kernel_rfl)) (by unfold Func.isWrapper; first | (rw [if_pos (by decide +kernel)]; kernel_rfl) | (rw [if_neg (by decide +kernel)]; exact ⟨rfl, rfl⟩))
    (fun os started H enc _ => lifted os started H enc)

/-- THE STATEMENT -/
theorem proved : Rows.PlanJoinsCardSaid :=
  Claim7.holds_tied_plain_at .later [] [.data, .data, .data, .data, .pinned] true (true, "6ecf1761df921cd6130d05390afe0c799ecd26dddc4c753377ab9a11a70384b5") false over (fun _ h => by cases h) (by kernel_rfl) (fun _ h => by cases h) planJoins_row_tie rfl ⟨rfl, rfl⟩ (by kernel_rfl) rfl
    (fun f fn hf hfn => by
      obtain rfl : f = 5 := Option.some.inj ((show Tryz.prog.funcNamed "bedrock/bedrocklaw44.PlanJoins" = some 5 by kernel_rfl).symm.trans hf) |>.symm
      obtain rfl : fn = Tryz.f5 := (Option.some.inj (Tryz.func5.symm.trans hfn)).symm
      exact ⟨by kernel_rfl, fun j t ht => by
        rw [Tryz.params5] at ht
        have hm : t ∈ [22, 22, 53] := by simpa using Array.mem_of_getElem? ht
        have hall : ([22, 22, 53].all fun u => !Tryz.prog.wantsStandIn u) = true := by kernel_rfl
        exact (show Tryz.prog.wantsStandIn t = false by simpa using List.all_eq_true.1 hall t hm)⟩)
    (by kernel_rfl)
#print axioms proved
end Go.Proofs.YtgnoikfmhncbmaaGreatDoor.planJoins
