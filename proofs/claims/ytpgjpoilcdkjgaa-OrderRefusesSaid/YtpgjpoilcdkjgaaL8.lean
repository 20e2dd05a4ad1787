/- OrderRefuses: for every input the law returns true, and each argument reads afterwards as it read before. No condition. -/
import Derived.Test.YtpgjpoilcdkjgaaRows
import Derived.Test.YtpgjpoilcdkjgaaU6
import Derived.Test.YtpgjpoilcdkjgaaA2
import Derived.WalkKit
import Derived.ProofKit
import Derived.OpenShut
import Derived.ShutString
import Derived.ChangeOld
import Derived.Below
import Derived.SizedLaws
namespace Go.Proofs.Ytpgjpoilcdkjgaa.orderRefuses
open Go.ChangeShapes Go.WideShapes Go.ChangeAt Go.RowKit Go.Deep
set_option linter.unusedVariables false

theorem own : ownKnob Try.prog.godebug = none := by kernel_rfl
theorem laidOut : laidOutB Try.prog = true := by kernel_rfl
theorem bytes65 : Try.prog.bytesOf 65 = 80 := by kernel_rfl

set_option maxRecDepth 100000 in
theorem lifted (os : Os) (started : os.Started) (H : Type) (enc : TypeId × Value → H) :
    ReturnsInHanded {} Try.checked os 8 .any (Rows.orderRefusesSpec.pre6 enc Try.prog Try.f8 Rows.orderRefusesRow.domain false) (Rows.orderRefusesSpec.post enc Try.prog Try.f8 false true false false) := by
  refine returnsInHanded_of_change_sized (C := Try.checked) own started (by kernel_rfl) Try.func8
    (ChangeSpec.witness6 (enc := enc) (C := Try.checked) false ⟨#[], #[.int .i64 0, .slice none 0 0], []⟩ 8 (by kernel_rfl) (by kernel_rfl) (by kernel_rfl) (by kernel_rfl)) ?_
  intro W base args ds gs before hval0 hW hcnd hsz0 _
  have hval : ∀ (j : Nat) t v, Try.f8.params[j]? = some t → args[j]? = some v → Value.okWide Try.prog W .any base t v := hval0
  have hW' := hW
  obtain ⟨p, q, hA0, hV, rfl, hfz, hnd⟩ := hW
  have hA : DataW.TrodAll enc Try.prog W 0 (fun _ => true) true Try.f8.params.toList args.toList ds p := hA0
  rw [Try.params8] at hA hval
  have hsz : (DataW.weightsEach Try.prog (Try.f8.params.toList ++ Rows.orderRefusesSpec.plain.varTypes Try.prog) (ds ++ gs)).all (· ≤ reachBytes) = true := hsz0
  rw [Try.params8] at hsz
  obtain ⟨v0, vs0, d0, ds0, p0, q0, hargs, rfl, rfl, h0, r0⟩ := trodAll_cons hA
  obtain ⟨v1, vs1, d1, ds1, p1, q1, rfl, rfl, rfl, h1, r1⟩ := trodAll_cons r0
  obtain ⟨rfl, rfl, rfl⟩ := trodAll_nil r1
  obtain rfl : args = #[v0, v1] := by cases args; simp_all
  obtain ⟨rfl, rfl⟩ := trodVars_none hV
  obtain ⟨n0, rfl, rfl, rfl, wf0⟩ := open_int Try.underlying3 (hval 0 3 v0 rfl rfl) h0
  obtain ⟨a1, len1, cap1, rfl⟩ := okWide_slice Try.underlying24 (hval 1 24 v1 rfl rfl)
  have k1 := h1
  have lt1 : ∀ x ∈ p1, x.block < W.heap.size := by obtain ⟨m, hm⟩ := k1; exact DataW.trod_lt m _ _ _ hm
  obtain ⟨es1, la1, lf1, lr1, lz1⟩ : ∃ es : List GE, es.length = len1 ∧ (∀ a ∈ es, a.Fit) ∧ Rd W (.slice a1 len1 cap1) len1 (geCells es) ∧ len1 * 80 ≤ 140737488351232 := by
    obtain ⟨fuel, hf⟩ := h1
    obtain ⟨es, g1, g2, g3, g4⟩ := open_events hf
    refine ⟨es, g1, g2, g3, ?_⟩
    rcases open_slice Try.underlying24 hf with ⟨hc, _⟩ | ⟨a, len, cap, m, n, D, Pl, hc, _, hl, hm, hmm, hx, hi⟩
    · simp [Value.cells] at hc
      obtain ⟨rfl, rfl, rfl⟩ := hc
      omega
    · simp [Value.cells] at hc
      obtain ⟨rfl, rfl, rfl⟩ := hc
      simp only [Prod.mk.injEq] at hx
      obtain ⟨rfl, _⟩ := hx
      have hs := sized_slice hsz (j := 1) (t := 24) (e := 65) rfl rfl Try.underlying24
      rw [bytes65] at hs
      simp only [List.length_map, List.length_range, reachBytes] at hs
      omega
  subst la1
  clear hA0 hval0
  refine (refuses_walk n0 es1 lf1 a1 cap1 W lr1 lz1).mono fun e W' ⟨he, bel⟩ => ?_
  subst he
  exact ⟨_, rfl, _, _, _, [], _, [], hW', trodAll_mk1 (shut_bool Try.underlying4 _), (trodAll_cons_mk (shut_int Try.underlying3 wf0) (trodAll_cons_mk (Below.trod laidOut (by kernel_rfl) (of_decide_eq_true (by kernel_rfl)) k1 bel lt1) trodAll_mk0)), rfl, bel.frame _, fun h => by cases h⟩

theorem over : Rows.orderRefusesRow.holds Try.pinned (OpenSpec.ofChange Rows.orderRefusesSpec) :=
  OpenClaim.holds_of_wide 8 Try.f8 rfl rfl rfl rfl rfl rfl rfl ⟨rfl, rfl, rfl, rfl, rfl⟩ rfl rfl rfl rfl rfl (by kernel_rfl) Try.func8 (by kernel_rfl)
    (of_decide_eq_true (by kernel_rfl)) (by unfold Func.isWrapper; first | (rw [if_pos (by decide +kernel)]; kernel_rfl) | (rw [if_neg (by decide +kernel)]; exact ⟨rfl, rfl⟩))
    (fun os started H enc _ => lifted os started H enc)

/-- THE STATEMENT -/
theorem proved : Rows.OrderRefusesSaid := over
#print axioms proved
end Go.Proofs.Ytpgjpoilcdkjgaa.orderRefuses
