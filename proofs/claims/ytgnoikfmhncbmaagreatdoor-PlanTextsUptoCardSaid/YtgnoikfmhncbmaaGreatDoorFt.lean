/- An argument that is a plan: its parts, and how long its strings are together. -/
import Derived.Test.YtgnoikfmhncbmaaGreatDoorFr
set_option linter.unusedVariables false
set_option linter.unusedSimpArgs false
namespace Go.Proofs.YtgnoikfmhncbmaaGreatDoor
open Go.RowKit Go.Lib Go.ChangeShapes Go.WideShapes Go.ChangeAt Go.Deep
section
variable {H : Type} {enc : TypeId × Value → H} {w : World} {base : Nat} {spare : Nat → Bool} {held : Bool}
theorem bulk_part {d : DataW H} {l : List (DataW H)} (h : d ∈ l) : Rows.uptoBulk d ≤ Rows.uptoBulkAll l := by
  induction l with
  | nil => cases h
  | cons x r ih =>
    simp only [Rows.uptoBulkAll]
    cases List.mem_cons.1 h with
    | inl e => subst e; omega
    | inr e => have := ih e; omega
set_option maxRecDepth 100000 in
theorem open_rv_b {fuel : Nat} {cs : List Value} {x : DataW H × List MemPlace} (h : DataW.trod enc Tryz.prog w base spare held fuel 28 cs = some x) : ∃ v : RV, v.ty < 256 ∧ v.tx.size ≤ Rows.uptoBulk x.1 ∧ cs = v.cells := by
  obtain ⟨v, h1, h2, h3⟩ := open_rv h
  refine ⟨v, h1, ?_, h3⟩
  subst h3
  obtain ⟨xs, n, rfl, hx, hcl, hxl, hf⟩ := DataW.trod_struct Tryz.underlying28 h
  have hx5 : xs.length = 5 := hxl
  have h3 := hf 3 _ rfl
  rw [List.getElem?_eq_getElem (by omega)] at h3
  have g3 : DataW.trod enc Tryz.prog w base spare held n 9 [.string v.tx] = some xs[3] := by rw [← h3]; rfl
  obtain ⟨s3, e3, d3, _⟩ := DataW.trod_string Tryz.underlying9 g3
  simp only [List.cons.injEq, Value.string.injEq, and_true] at e3
  subst e3
  have hm : (xs[3]).1 ∈ xs.map (·.1) := List.mem_map.2 ⟨xs[3], List.getElem_mem _, rfl⟩
  have h5 := bulk_part hm
  rw [d3] at h5
  simp only [Rows.uptoBulk] at h5
  rw [hx]
  simp only [Rows.uptoBulk]
  have e : v.tx.data.toList.length = v.tx.size := by simp
  omega
theorem i64_lt {n : Int} (h : (Lit.int .i64 n).wf = true) : -9223372036854775808 ≤ n ∧ n ≤ 9223372036854775807 := by
  simp only [Lit.wf, Bool.and_eq_true, decide_eq_true_eq] at h
  have e1 : IntKind.min .i64 = -9223372036854775808 := by decide
  have e2 : IntKind.max .i64 = 9223372036854775807 := by decide
  rw [e1, e2] at h
  exact h
theorem u32_lt {n : Int} (h : (Lit.int .u32 n).wf = true) : 0 ≤ n ∧ n < 4294967296 := by
  simp only [Lit.wf, Bool.and_eq_true, decide_eq_true_eq] at h
  have e1 : IntKind.min .u32 = 0 := by decide
  have e2 : IntKind.max .u32 = 4294967295 := by decide
  rw [e1, e2] at h
  omega
theorem cellsPlan : Tryz.prog.cellsOf 43 = 18 := by kernel_rfl
set_option maxHeartbeats 4000000 in
set_option maxRecDepth 100000 in
theorem open_plan {r : Reach} {b0 : Nat} {v : Value} {d : DataW H} {pl : List MemPlace} (hv : Value.okWide Tryz.prog w r b0 43 v) (h : DataW.Trod enc Tryz.prog w base spare held 43 v d pl) :
    ∃ (p : Nat) (col : ByteArray) (lo hi : RV) (fa fb : Nat) (f : Option Addr) (od : ByteArray) (ds : Bool) (lm : Int), p < 256 ∧ lo.ty < 256 ∧ hi.ty < 256 ∧ fa < 4294967296 ∧ fb < 4294967296 ∧ -9223372036854775808 ≤ lm ∧ lm ≤ 9223372036854775807 ∧
      col.size + od.size + lo.tx.size + hi.tx.size ≤ 4 * Rows.uptoBulk d ∧
      v = .agg #[.int .u8 (p : Int), .string col, .int .u8 (lo.ty : Int), .bool lo.nl, .int .i64 lo.n, .string lo.tx, .bool lo.b, .int .u8 (hi.ty : Int), .bool hi.nl, .int .i64 hi.n, .string hi.tx, .bool hi.b, .int .u32 (fa : Int), .int .u32 (fb : Int), .pointer f, .string od, .bool ds, .int .i64 lm] := by
  obtain ⟨cs, rfl, hsz⟩ := okWide_struct Tryz.underlying43 hv
  rw [cellsPlan] at hsz
  obtain ⟨fuel, hf⟩ := h
  obtain ⟨l⟩ := cs
  match l, hsz with
  | [c0, c1, c2, c3, c4, c5, c6, c7, c8, c9, c10, c11, c12, c13, c14, c15, c16, c17], _ =>
    obtain ⟨xs, n, _, hx, _, hxl, hg⟩ := DataW.trod_struct Tryz.underlying43 hf
    have hx10 : xs.length = 10 := hxl
    have h0 := hg 0 _ rfl
    have h1 := hg 1 _ rfl
    have h2 := hg 2 _ rfl
    have h3 := hg 3 _ rfl
    have h4 := hg 4 _ rfl
    have h5 := hg 5 _ rfl
    have h6 := hg 6 _ rfl
    have h7 := hg 7 _ rfl
    have h8 := hg 8 _ rfl
    have h9 := hg 9 _ rfl
    rw [List.getElem?_eq_getElem (by omega)] at h0 h1 h2 h3 h4 h5 h6 h7 h8 h9
    have g0 : DataW.trod enc Tryz.prog w base spare held n 40 [c0] = some xs[0] := by rw [← h0]; rfl
    have g1 : DataW.trod enc Tryz.prog w base spare held n 9 [c1] = some xs[1] := by rw [← h1]; rfl
    have g2 : DataW.trod enc Tryz.prog w base spare held n 28 [c2, c3, c4, c5, c6] = some xs[2] := by rw [← h2]; rfl
    have g3 : DataW.trod enc Tryz.prog w base spare held n 28 [c7, c8, c9, c10, c11] = some xs[3] := by rw [← h3]; rfl
    have g4 : DataW.trod enc Tryz.prog w base spare held n 41 [c12] = some xs[4] := by rw [← h4]; rfl
    have g5 : DataW.trod enc Tryz.prog w base spare held n 41 [c13] = some xs[5] := by rw [← h5]; rfl
    have g6 : DataW.trod enc Tryz.prog w base spare held n 24 [c14] = some xs[6] := by rw [← h6]; rfl
    have g7 : DataW.trod enc Tryz.prog w base spare held n 9 [c15] = some xs[7] := by rw [← h7]; rfl
    have g8 : DataW.trod enc Tryz.prog w base spare held n 4 [c16] = some xs[8] := by rw [← h8]; rfl
    have g9 : DataW.trod enc Tryz.prog w base spare held n 3 [c17] = some xs[9] := by rw [← h9]; rfl
    obtain ⟨m0, e0, _, w0⟩ := DataW.trod_int Tryz.underlying40 g0
    obtain ⟨s1, e1, d1, _⟩ := DataW.trod_string Tryz.underlying9 g1
    obtain ⟨lo, l1, l2, l3⟩ := open_rv_b g2
    obtain ⟨hi, k1, k2, k3⟩ := open_rv_b g3
    obtain ⟨m4, e4, _, w4⟩ := DataW.trod_int Tryz.underlying41 g4
    obtain ⟨m5, e5, _, w5⟩ := DataW.trod_int Tryz.underlying41 g5
    obtain ⟨f, e6⟩ : ∃ f, c14 = .pointer f := by
      rcases DataW.trod_pointer Tryz.underlying24 g6 with ⟨e, _⟩ | ⟨_, _, _, _, _, e, _⟩
      · simp only [List.cons.injEq, and_true] at e; exact ⟨_, e⟩
      · simp only [List.cons.injEq, and_true] at e; exact ⟨_, e⟩
    obtain ⟨s7, e7, d7, _⟩ := DataW.trod_string Tryz.underlying9 g7
    obtain ⟨b8, e8, _⟩ := DataW.trod_bool Tryz.underlying4 g8
    obtain ⟨m9, e9, _, w9⟩ := DataW.trod_int Tryz.underlying3 g9
    simp only [List.cons.injEq, and_true] at e0 e1 e4 e5 e7 e8 e9
    obtain ⟨q0, r0⟩ := u8_lt w0
    obtain ⟨q4, r4⟩ := u32_lt w4
    obtain ⟨q5, r5⟩ := u32_lt w5
    obtain ⟨q9, r9⟩ := i64_lt w9
    obtain ⟨t0, rfl⟩ := Int.eq_ofNat_of_zero_le q0
    obtain ⟨t4, rfl⟩ := Int.eq_ofNat_of_zero_le q4
    obtain ⟨t5, rfl⟩ := Int.eq_ofNat_of_zero_le q5
    subst e0 e1 e4 e5 e6 e7 e8 e9
    have hd : d = .agg (xs.map (·.1)) := congrArg Prod.fst hx
    have mem : ∀ (i : Nat) (hi : i < xs.length), Rows.uptoBulk (xs[i]).1 ≤ Rows.uptoBulk d := fun i hi => by
      have := bulk_part (List.mem_map.2 ⟨xs[i], List.getElem_mem hi, rfl⟩ : (xs[i]).1 ∈ xs.map (·.1))
      rw [hd]; simp only [Rows.uptoBulk]; omega
    have b1 := mem 1 (by omega)
    have b2 := mem 2 (by omega)
    have b3 := mem 3 (by omega)
    have b7 := mem 7 (by omega)
    rw [d1] at b1
    rw [d7] at b7
    simp only [Rows.uptoBulk] at b1 b7
    have z1 : s1.data.toList.length = s1.size := by simp
    have z7 : s7.data.toList.length = s7.size := by simp
    refine ⟨t0, s1, lo, hi, t4, t5, f, s7, b8, m9, by omega, l1, k1, by omega, by omega, q9, r9, by omega, ?_⟩
    unfold RV.cells at l3 k3
    simp only [List.cons.injEq, and_true] at l3 k3
    obtain ⟨rfl, rfl, rfl, rfl, rfl⟩ := l3
    obtain ⟨rfl, rfl, rfl, rfl, rfl⟩ := k3
    rfl
end
end Go.Proofs.YtgnoikfmhncbmaaGreatDoor
