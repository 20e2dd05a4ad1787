/- An argument that is a row of the laws. -/
import Derived.Test.YtgnoikfmhncbmaaGreatDoorFn
set_option linter.unusedVariables false
set_option linter.unusedSimpArgs false
namespace Go.Proofs.YtgnoikfmhncbmaaGreatDoor
open Go.RowKit Go.Lib Go.ChangeShapes Go.WideShapes Go.ChangeAt Go.Deep
section
variable {H : Type} {enc : TypeId × Value → H} {w : World} {base : Nat} {spare : Nat → Bool} {held : Bool}
theorem i32_lt {n : Int} (h : (Lit.int .i32 n).wf = true) : -2147483648 ≤ n ∧ n ≤ 2147483647 := by
  simp only [Lit.wf, Bool.and_eq_true, decide_eq_true_eq] at h
  have e1 : IntKind.min .i32 = -2147483648 := by decide
  have e2 : IntKind.max .i32 = 2147483647 := by decide
  rw [e1, e2] at h
  exact h
theorem u32_in {n : Int} (h : (Lit.int .u32 n).wf = true) : 0 ≤ n ∧ n < 4294967296 := by
  simp only [Lit.wf, Bool.and_eq_true, decide_eq_true_eq] at h
  have e1 : IntKind.min .u32 = 0 := by decide
  have e2 : IntKind.max .u32 = 4294967295 := by decide
  rw [e1, e2] at h
  omega
theorem cellsLRow : Tryz.prog.cellsOf 53 = 6 := by kernel_rfl
set_option maxHeartbeats 4000000 in
set_option maxRecDepth 100000 in
theorem open_lrow {r : Reach} {b0 : Nat} {v : Value} {d : DataW H} {pl : List MemPlace} (hv : Value.okWide Tryz.prog w r b0 53 v) (h : DataW.Trod enc Tryz.prog w base spare held 53 v d pl) :
    ∃ (id : Nat) (a b : Int) (bs : ByteArray) (c : Bool) (nu : Nat), id < 4294967296 ∧ (-2147483648 ≤ a ∧ a ≤ 2147483647) ∧ (-2147483648 ≤ b ∧ b ≤ 2147483647) ∧ bs.size ≤ 9223372036854775807 ∧ nu < 256 ∧
      v = .agg #[.int .u32 (id : Int), .int .i32 a, .int .i32 b, .string bs, .bool c, .int .u8 (nu : Int)] := by
  obtain ⟨cs, rfl, hsz⟩ := okWide_struct Tryz.underlying53 hv
  rw [cellsLRow] at hsz
  obtain ⟨fuel, hf⟩ := h
  obtain ⟨l⟩ := cs
  match l, hsz with
  | [c0, c1, c2, c3, c4, c5], _ =>
    obtain ⟨xs, n, _, hx, _, hxl, hg⟩ := DataW.trod_struct Tryz.underlying53 hf
    have hx6 : xs.length = 6 := hxl
    have h0 := hg 0 _ rfl
    have h1 := hg 1 _ rfl
    have h2 := hg 2 _ rfl
    have h3 := hg 3 _ rfl
    have h4 := hg 4 _ rfl
    have h5 := hg 5 _ rfl
    rw [List.getElem?_eq_getElem (by omega)] at h0 h1 h2 h3 h4 h5
    have g0 : DataW.trod enc Tryz.prog w base spare held n 41 [c0] = some xs[0] := by rw [← h0]; rfl
    have g1 : DataW.trod enc Tryz.prog w base spare held n 21 [c1] = some xs[1] := by rw [← h1]; rfl
    have g2 : DataW.trod enc Tryz.prog w base spare held n 21 [c2] = some xs[2] := by rw [← h2]; rfl
    have g3 : DataW.trod enc Tryz.prog w base spare held n 9 [c3] = some xs[3] := by rw [← h3]; rfl
    have g4 : DataW.trod enc Tryz.prog w base spare held n 4 [c4] = some xs[4] := by rw [← h4]; rfl
    have g5 : DataW.trod enc Tryz.prog w base spare held n 5 [c5] = some xs[5] := by rw [← h5]; rfl
    obtain ⟨m0, e0, _, w0⟩ := DataW.trod_int Tryz.underlying41 g0
    obtain ⟨m1, e1, _, w1⟩ := DataW.trod_int Tryz.underlying21 g1
    obtain ⟨m2, e2, _, w2⟩ := DataW.trod_int Tryz.underlying21 g2
    obtain ⟨s3, e3, _, w3⟩ := DataW.trod_string Tryz.underlying9 g3
    obtain ⟨b4, e4, _⟩ := DataW.trod_bool Tryz.underlying4 g4
    obtain ⟨m5, e5, _, w5⟩ := DataW.trod_int Tryz.underlying5 g5
    simp only [List.cons.injEq, and_true] at e0 e1 e2 e3 e4 e5
    subst e0 e1 e2 e3 e4 e5
    obtain ⟨q0, r0⟩ := u32_in w0
    obtain ⟨q5, r5⟩ := u8_lt w5
    obtain ⟨t0, rfl⟩ := Int.eq_ofNat_of_zero_le q0
    obtain ⟨t5, rfl⟩ := Int.eq_ofNat_of_zero_le q5
    exact ⟨t0, m1, m2, s3, b4, t5, by omega, i32_lt w1, i32_lt w2, by unfold maxLen at w3; exact w3, by omega, rfl⟩
end
end Go.Proofs.YtgnoikfmhncbmaaGreatDoor
