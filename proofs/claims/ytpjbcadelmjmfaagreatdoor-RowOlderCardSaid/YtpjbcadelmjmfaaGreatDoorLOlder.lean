/- RowOlder: for every input the law returns true, and each argument reads afterwards as it read before. The tied card: the listed variables of the library hold what the program's text lays. No other condition. -/
import Derived.Test.YtpjbcadelmjmfaaGreatDoorRows
import Derived.Test.YtpjbcadelmjmfaaGreatDoorCards
import Derived.Test.YtpjbcadelmjmfaaGreatDoorTie
import Derived.Test.YtpjbcadelmjmfaaGreatDoorFr2
import Derived.Test.YtpjbcadelmjmfaaGreatDoorFr5
import Derived.Test.YtpjbcadelmjmfaaGreatDoorR50
namespace Go.Proofs.YtpjbcadelmjmfaaGreatDoor.rowOlder
open Go.ChangeShapes Go.WideShapes Go.ChangeAt Go.RowKit Go.Deep
set_option linter.unusedVariables false

set_option maxRecDepth 100000 in
theorem lifted (os : Os) (started : os.Started) (H : Type) (enc : TypeId × Value → H) :
    ReturnsInHanded {} Tryz.checked os 12 .any (fun w args => (Rows.rowOlderSpec.pre enc Tryz.prog Tryz.f12 Rows.rowOlderRow.domain false w args ∧ laidMetH Tryz.prog seatLaid w) ∧ sizedMet enc Tryz.prog Tryz.f12 (OpenSpec.ofChange Rows.rowOlderSpec) false w args)
      (Rows.rowOlderSpec.post enc Tryz.prog Tryz.f12 false true false false) := by
  refine returns_all (C := Tryz.checked) (X := fun w => laidMetH Tryz.prog seatLaid w) (fun _ _ hh h => h.of_heap hh) own started (by kernel_rfl) Tryz.func12
    (ChangeSpec.witness_shaped (enc := enc) (C := Tryz.checked) (os := os) (X := fun w _ => laidMetH Tryz.prog seatLaid w) false (World.laidAll Tryz.prog os seatLaid) #[.slice none 0 0, .slice none 0 0, .slice none 0 0] 8 (World.laidAll_os _ _ _)
      (World.shaped_of_ZipB (by kernel_rfl) (by kernel_rfl)) (by kernel_rfl) (by kernel_rfl) (by kernel_rfl)
      (by rw [MakeChecks.laidMetH_plain _ _ _ (by kernel_rfl)]; exact laidMet_laidAll _ (by kernel_rfl) (by kernel_rfl))) ?_
  intro W base args ds gs before hval0 hW hsz0 hL hsh
  have hval : ∀ (j : Nat) t v, Tryz.f12.params[j]? = some t → args[j]? = some v → Value.okWide Tryz.prog W .any base t v := hval0
  have hW' := hW
  obtain ⟨p, q, hA0, hV, rfl, _, _⟩ := hW
  have hA : DataW.TrodAll enc Tryz.prog W 0 (fun _ => true) true Tryz.f12.params.toList args.toList ds p := hA0
  rw [Tryz.params12] at hA hval
  obtain ⟨v0, v1, v2, d0, d1, d2, p0, p1, p2, rfl, rfl, rfl, h0, h1, h2⟩ := trodAll_three hA
  obtain ⟨rfl, rfl⟩ := trodVars_none hV
  have lt0 : ∀ x ∈ p0, x.block < W.heap.size := by obtain ⟨m, hm⟩ := h0; exact DataW.trod_lt m _ _ _ hm
  have lt1 : ∀ x ∈ p1, x.block < W.heap.size := by obtain ⟨m, hm⟩ := h1; exact DataW.trod_lt m _ _ _ hm
  have lt2 : ∀ x ∈ p2, x.block < W.heap.size := by obtain ⟨m, hm⟩ := h2; exact DataW.trod_lt m _ _ _ hm
  obtain ⟨a0, len0, cap0, rfl⟩ := okWide_slice Tryz.underlying22 (hval 0 22 v0 rfl rfl)
  obtain ⟨l0, ln0, ok0, rd0, lm0⟩ : ∃ l : List LC, l.length = len0 ∧ (∀ c ∈ l, c.t < 256 ∧ c.d.ty < 256 ∧ c.d.tx.size ≤ 9223372036854775807) ∧ Rd W (.slice a0 len0 cap0) len0 (lCells l) ∧ len0 ≤ 9223372036854775807 := by
    obtain ⟨fuel, hf⟩ := h0
    exact open_cols hf
  subst ln0
  obtain ⟨a1, len1, cap1, rfl⟩ := okWide_slice Tryz.underlying24 (hval 1 24 v1 rfl rfl)
  obtain ⟨l1, ln1, ok1, rd1, lm1⟩ : ∃ l : List RV, l.length = len1 ∧ (∀ c ∈ l, c.ty < 256 ∧ c.tx.size ≤ 9223372036854775807) ∧ Rd W (.slice a1 len1 cap1) len1 (vCells l) ∧ len1 ≤ 9223372036854775807 := by
    obtain ⟨fuel, hf⟩ := h1
    exact open_row hf
  subst ln1
  obtain ⟨a2, len2, cap2, rfl⟩ := okWide_slice Tryz.underlying22 (hval 2 22 v2 rfl rfl)
  obtain ⟨l2, ln2, ok2, rd2, lm2⟩ : ∃ l : List LC, l.length = len2 ∧ (∀ c ∈ l, c.t < 256 ∧ c.d.ty < 256 ∧ c.d.tx.size ≤ 9223372036854775807) ∧ Rd W (.slice a2 len2 cap2) len2 (lCells l) ∧ len2 ≤ 9223372036854775807 := by
    obtain ⟨fuel, hf⟩ := h2
    exact open_cols hf
  subst ln2
  have b0 : l0.length ≤ reachBytes := len_bound h0 fun el sp e => sized_slice hsz0 (j := 0) (t := 22) (e := 93) (elems := el) (spare := sp) rfl (by rw [e]; rfl) Tryz.underlying22
  have b2 : l2.length ≤ reachBytes := len_bound h2 fun el sp e => sized_slice hsz0 (j := 2) (t := 22) (e := 93) (elems := el) (spare := sp) rfl (by rw [e]; rfl) Tryz.underlying22
  have hsum := reach_sum b0 b2
  simp only [List.append_nil] at hW'
  refine (older_walk l0 ok0 lm0 a0 cap0 l1 ok1 lm1 a1 cap1 l2 ok2 lm2 a2 cap2 hsum W (env_of hL hsh) rd0 rd1 rd2).mono fun e W' ⟨he, bel⟩ => ?_
  subst he
  exact ⟨_, rfl, _, _, _, [], _, [], hW', trodAll_mk1 (shut_bool Tryz.underlying4 _), (trodAll_mk3 (Below.trod laidOut (by kernel_rfl) (of_decide_eq_true (by kernel_rfl)) h0 bel lt0) (Below.trod laidOut (by kernel_rfl) (of_decide_eq_true (by kernel_rfl)) h1 bel lt1) (Below.trod laidOut (by kernel_rfl) (of_decide_eq_true (by kernel_rfl)) h2 bel lt2)), rfl, bel.frame _, fun h => by cases h⟩

theorem over : Rows.RowOlderSaid :=
  OpenClaim.holds_of_wide 12 Tryz.f12 rfl rfl rfl rfl rfl rfl rfl ⟨rfl, rfl, rfl, rfl, rfl⟩ rfl rfl rfl rfl rfl (by kernel_rfl) Tryz.func12 (by kernel_rfl)
    (of_decide_eq_true (by kernel_rfl)) (by unfold Func.isWrapper; first | (rw [if_pos (by decide +kernel)]; kernel_rfl) | (rw [if_neg (by decide +kernel)]; exact ⟨rfl, rfl⟩))
    (fun os started H enc _ => lifted os started H enc)

/-- THE STATEMENT -/
theorem proved : Rows.RowOlderCardSaid :=
  Claim7.holds_tied_plain_at .later [] [.data, .data, .data, .data, .sentinel, .sentinel, .pinned] true (true, "113302d766f8cc620eddcc904da421f312fbaa006a29ff363da8393739dc994c") true over (fun _ h => by cases h) (by kernel_rfl) (fun _ h => by cases h) rowOlder_row_tie rfl ⟨rfl, rfl⟩ (by kernel_rfl) rfl
    (fun f fn hf hfn => by
      obtain rfl : f = 12 := Option.some.inj ((show Tryz.prog.funcNamed "bedrock/bedrocklaw40.RowOlder" = some 12 by kernel_rfl).symm.trans hf) |>.symm
      obtain rfl : fn = Tryz.f12 := (Option.some.inj (Tryz.func12.symm.trans hfn)).symm
      exact ⟨by kernel_rfl, fun j t ht => by
        rw [Tryz.params12] at ht
        have hm : t ∈ [22, 24, 22] := by simpa using Array.mem_of_getElem? ht
        have hall : ([22, 24, 22].all fun u => !Tryz.prog.wantsStandIn u) = true := by kernel_rfl
        exact (show Tryz.prog.wantsStandIn t = false by simpa using List.all_eq_true.1 hall t hm)⟩)
    (by kernel_rfl)
#print axioms proved
end Go.Proofs.YtpjbcadelmjmfaaGreatDoor.rowOlder
