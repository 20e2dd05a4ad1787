/- PlanTexts, where what it reads is of bulk at most 1048576: the law returns true, and each argument reads afterwards as it read before. The tied card: the listed variables of the library hold what the program's text lays. -/
import Derived.Test.YtgnoikfmhncbmaaGreatDoorRows
import Derived.Test.YtgnoikfmhncbmaaGreatDoorCards
import Derived.Test.YtgnoikfmhncbmaaGreatDoorTie
import Derived.Test.YtgnoikfmhncbmaaGreatDoorP3
import Derived.Test.YtgnoikfmhncbmaaGreatDoorFt
import Derived.Deep.DeepHandedRow
set_option linter.unusedVariables false
set_option linter.unusedSimpArgs false
namespace Go.Proofs.YtgnoikfmhncbmaaGreatDoor.planTexts
open Go.ChangeShapes Go.WideShapes Go.ChangeAt Go.RowKit Go.Deep
set_option linter.unusedVariables false

set_option maxRecDepth 100000 in
theorem contract (H : Type) (enc : TypeId × Value → H) (W : World) (base : Nat) (args : Array Value) (ds gs : List (DataW H)) (before : List MemPlace)
    (hval0 : ∀ (j : Nat) t v, Tryz.f4.params[j]? = some t → args[j]? = some v → Value.okWide Tryz.prog W .any base t v)
    (hW : DataW.Whole enc Tryz.prog Tryz.f4.params.toList Rows.planTextsSpec.vars false W args.toList ds gs before) (hk : Rows.uptoSmall H (ds ++ gs) = true)
    (hL : laidMetH Tryz.prog seatLaid W) (hsh : W.ShapedOpen Tryz.prog) :
    Calls Tryz.prog 4 args W fun e W' => ∃ v, e = .returned v ∧ Rows.planTextsSpec.post enc Tryz.prog Tryz.f4 false true false false W args v W' := by
  have hval := hval0
  have hW' := hW
  obtain ⟨p, q, hA0, hV, rfl, _, _⟩ := hW
  have hA : DataW.TrodAll enc Tryz.prog W 0 (fun _ => true) true Tryz.f4.params.toList args.toList ds p := hA0
  rw [Tryz.params4] at hA hval
  obtain ⟨v0, v1, d0, d1, p0, p1, rfl, rfl, rfl, h0, h1⟩ := trodAll_two hA
  obtain ⟨rfl, rfl⟩ := trodVars_none hV
  have lt0 : ∀ x ∈ p0, x.block < W.heap.size := by obtain ⟨m, hm⟩ := h0; exact DataW.trod_lt m _ _ _ hm
  have lt1 : ∀ x ∈ p1, x.block < W.heap.size := by obtain ⟨m, hm⟩ := h1; exact DataW.trod_lt m _ _ _ hm
  obtain ⟨pp, col, lo, hi, fa, fb, f, od, dsc, lm, w1, w2, w3, w4, w5, w6, w7, hsum, rfl⟩ := open_plan (hval 0 43 v0 rfl rfl) h0
  obtain ⟨fs, e1, _, _⟩ := open_bool Tryz.underlying4 (hval 1 4 v1 rfl rfl) h1
  subst e1
  obtain ⟨ta, na, ia, xa, ba1⟩ := lo
  obtain ⟨tb, nb, ib, xb, bb⟩ := hi
  have hb : Rows.uptoBulkAll ([d0, d1] ++ []) ≤ 1048576 := of_decide_eq_true hk
  simp only [List.append_nil, Rows.uptoBulkAll] at hb
  dsimp only at w2 w3 hsum
  simp only [List.append_nil] at hW'
  refine (texts_walk pp w1 col ta w2 na ia xa ba1 tb w3 nb ib xb bb fa fb w4 w5 f fs od dsc lm w6 w7 (by omega) W (env_of hL hsh)).mono fun e W' ⟨he, bel⟩ => ?_
  subst he
  exact ⟨_, rfl, _, _, _, [], _, [], hW', trodAll_mk1 (shut_bool Tryz.underlying4 _), (trodAll_mk2 (Below.trod laidOut (by kernel_rfl) (of_decide_eq_true (by kernel_rfl)) h0 bel lt0) (Below.trod laidOut (by kernel_rfl) (of_decide_eq_true (by kernel_rfl)) h1 bel lt1)), rfl, bel.frame _, fun h => by cases h⟩

def zero : Value := .agg #[.int .u8 0, .string ⟨#[]⟩, .int .u8 0, .bool false, .int .i64 0, .string ⟨#[]⟩, .bool false, .int .u8 0, .bool false, .int .i64 0, .string ⟨#[]⟩, .bool false, .int .u32 0, .int .u32 0, .pointer none, .string ⟨#[]⟩, .bool false, .int .i64 0]
def zeroV {H : Type} : DataW H := .agg [.lit (.int .u8 0), .lit (.bool false), .lit (.int .i64 0), .lit (.string []), .lit (.bool false)]
def zeroD {H : Type} : DataW H := .agg [.lit (.int .u8 0), .lit (.string []), zeroV, zeroV, .lit (.int .u32 0), .lit (.int .u32 0), .nil, .lit (.string []), .lit (.bool false), .lit (.int .i64 0)]
theorem reads (os : Os) {H : Type} (enc : TypeId × Value → H) : ∃ places, DataW.whole enc Tryz.prog ((World.laidAll Tryz.prog os seatLaid).forCall (fun _ _ => 0) ⟨#[], #[zero, .bool false], []⟩).memory Tryz.f4.params.toList Rows.planTextsSpec.vars false #[zero, .bool false].toList 8 = some ([zeroD, .lit (.bool false)], [], places) :=
  ⟨[], by kernel_rfl⟩
set_option maxRecDepth 100000 in
theorem lifted (os : Os) (started : os.Started) (H : Type) (enc : TypeId × Value → H) (F : Stop.Interp) :
    ReturnsInHanded {} Tryz.checked os 4 .any ((Rows.OpenSpec.upto Rows.planTextsSpec).preRow enc Tryz.prog Tryz.f4 Rows.planTextsUptoRow.domain false Rows.planTextsUptoRow.laid) (((Rows.OpenSpec.upto Rows.planTextsSpec).at F).post enc Tryz.prog Tryz.f4 false true false false) := by
  obtain ⟨places, hx⟩ := reads os enc
  refine returnsInHanded_of_row (C := Tryz.checked) (s := Rows.OpenSpec.upto Rows.planTextsSpec) own started (by kernel_rfl) Tryz.func4
    (witness_row_at (enc := enc) (C := Tryz.checked) false (World.laidAll Tryz.prog os seatLaid) #[zero, .bool false] (World.laidAll_os _ _ _) (by kernel_rfl) (by kernel_rfl) (by kernel_rfl)
      (OpenSpec.preRow_of_cond 8 hx (by kernel_rfl) (fun k hk => by cases hk; kernel_rfl) (by kernel_rfl)
        (by rw [MakeChecks.laidMetH_plain _ _ _ (by kernel_rfl)]; exact laidMet_laidAll _ (by kernel_rfl) (by kernel_rfl)))) ?_
  intro W base args ds gs before hval hW _ hcond _ hL hsh _
  exact contract H enc W base args ds gs before hval hW (hcond _ rfl) hL hsh
theorem over : Rows.PlanTextsUptoSaid :=
  OpenClaim.holds_of_cond 4 Tryz.f4 rfl rfl rfl rfl rfl rfl rfl ⟨rfl, rfl, rfl, rfl, rfl⟩ rfl rfl rfl rfl rfl (by kernel_rfl) Tryz.func4 (by kernel_rfl)
    (of_decide_eq_true (by kernel_rfl)) (by unfold Func.isWrapper; first | (rw [if_pos (by decide +kernel)]; kernel_rfl) | (rw [if_neg (by decide +kernel)]; exact ⟨rfl, rfl⟩))
    (fun os started H enc _ F => by rw [OpenClaim.pre_eq_preRow]; exact lifted os started H enc F)
/-- THE STATEMENT -/
theorem proved : Rows.PlanTextsUptoCardSaid :=
  Claim7.holds_tied_plain_at .later [] _ _ _ _ over (fun _ h => by cases h) (by kernel_rfl) (fun _ h => by cases h) planTextsUpto_row_tie rfl ⟨rfl, rfl⟩ (by kernel_rfl) rfl
    (fun f fn hf hfn => by
      obtain rfl : f = 4 := Option.some.inj ((show Tryz.prog.funcNamed "bedrock/bedrocklaw44.PlanTexts" = some 4 by kernel_rfl).symm.trans hf) |>.symm
      obtain rfl : fn = Tryz.f4 := (Option.some.inj (Tryz.func4.symm.trans hfn)).symm
      exact ⟨by kernel_rfl, fun j t ht => by
        rw [Tryz.params4] at ht
        have hm : t ∈ [43, 4] := by simpa using Array.mem_of_getElem? ht
        have hall : ([43, 4].all fun u => !Tryz.prog.wantsStandIn u) = true := by kernel_rfl
        exact (show Tryz.prog.wantsStandIn t = false by simpa using List.all_eq_true.1 hall t hm)⟩)
    (by kernel_rfl)
#print axioms proved
end Go.Proofs.YtgnoikfmhncbmaaGreatDoor.planTexts
