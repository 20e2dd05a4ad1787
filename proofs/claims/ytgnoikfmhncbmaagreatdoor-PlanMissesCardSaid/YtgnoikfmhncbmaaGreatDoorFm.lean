/- An argument that is a row of the laws. An argument that is a statement of the laws. -/
import Derived.Test.YtgnoikfmhncbmaaGreatDoorFn
import Derived.Test.YtgnoikfmhncbmaaGreatDoorMm
set_option linter.unusedVariables false
set_option linter.unusedSimpArgs false
namespace Go.Proofs.YtgnoikfmhncbmaaGreatDoor
open Go.RowKit Go.Lib Go.ChangeShapes Go.WideShapes Go.ChangeAt Go.Deep
section
variable {H : Type} {enc : TypeId × Value → H} {w : World} {base : Nat} {spare : Nat → Bool} {held : Bool}
theorem i32_lt {n : Int} (h : (Lit.int .i32 n).wf = true) : -2147483648 ≤ n ∧ n ≤ 2147483647 := by
  simp only [Lit.wf, Bool.and_eq_true, decide_eq_true_eq] at h
  have e1 : IntKind.min .i32 = -2147483648 := by decide
  have e2 : IntKind.max .i32 = 2147483647 := by decide
  rw [e1, e2] at h
  exact h
theorem u32_in {n : Int} (h : (Lit.int .u32 n).wf = true) : 0 ≤ n ∧ n < 4294967296 := by
  simp only [Lit.wf, Bool.and_eq_true, decide_eq_true_eq] at h
  have e1 : IntKind.min .u32 = 0 := by decide
  have e2 : IntKind.max .u32 = 4294967295 := by decide
  rw [e1, e2] at h
  omega
theorem cellsLRow : Tryz.prog.cellsOf 53 = 6 := by kernel_rfl
set_option maxHeartbeats 4000000 in
set_option maxRecDepth 100000 in
theorem open_lrow {r : Reach} {b0 : Nat} {v : Value} {d : DataW H} {pl : List MemPlace} (hv : Value.okWide Tryz.prog w r b0 53 v) (h : DataW.Trod enc Tryz.prog w base spare held 53 v d pl) :
    ∃ (id : Nat) (a b : Int) (bs : ByteArray) (c : Bool) (nu : Nat), id < 4294967296 ∧ (-2147483648 ≤ a ∧ a ≤ 2147483647) ∧ (-2147483648 ≤ b ∧ b ≤ 2147483647) ∧ bs.size ≤ 9223372036854775807 ∧ nu < 256 ∧
      v = .agg #[.int .u32 (id : Int), .int .i32 a, .int .i32 b, .string bs, .bool c, .int .u8 (nu : Int)] := by
  obtain ⟨cs, rfl, hsz⟩ := okWide_struct Tryz.underlying53 hv
  rw [cellsLRow] at hsz
  obtain ⟨fuel, hf⟩ := h
  obtain ⟨l⟩ := cs
  match l, hsz with
  | [c0, c1, c2, c3, c4, c5], _ =>
    obtain ⟨xs, n, _, hx, _, hxl, hg⟩ := DataW.trod_struct Tryz.underlying53 hf
    have hx6 : xs.length = 6 := hxl
    have h0 := hg 0 _ rfl
    have h1 := hg 1 _ rfl
    have h2 := hg 2 _ rfl
    have h3 := hg 3 _ rfl
    have h4 := hg 4 _ rfl
    have h5 := hg 5 _ rfl
    rw [List.getElem?_eq_getElem (by omega)] at h0 h1 h2 h3 h4 h5
    have g0 : DataW.trod enc Tryz.prog w base spare held n 41 [c0] = some xs[0] := by rw [← h0]; rfl
    have g1 : DataW.trod enc Tryz.prog w base spare held n 21 [c1] = some xs[1] := by rw [← h1]; rfl
    have g2 : DataW.trod enc Tryz.prog w base spare held n 21 [c2] = some xs[2] := by rw [← h2]; rfl
    have g3 : DataW.trod enc Tryz.prog w base spare held n 9 [c3] = some xs[3] := by rw [← h3]; rfl
    have g4 : DataW.trod enc Tryz.prog w base spare held n 4 [c4] = some xs[4] := by rw [← h4]; rfl
    have g5 : DataW.trod enc Tryz.prog w base spare held n 5 [c5] = some xs[5] := by rw [← h5]; rfl
    obtain ⟨m0, e0, _, w0⟩ := DataW.trod_int Tryz.underlying41 g0
    obtain ⟨m1, e1, _, w1⟩ := DataW.trod_int Tryz.underlying21 g1
    obtain ⟨m2, e2, _, w2⟩ := DataW.trod_int Tryz.underlying21 g2
    obtain ⟨s3, e3, _, w3⟩ := DataW.trod_string Tryz.underlying9 g3
    obtain ⟨b4, e4, _⟩ := DataW.trod_bool Tryz.underlying4 g4
    obtain ⟨m5, e5, _, w5⟩ := DataW.trod_int Tryz.underlying5 g5
    simp only [List.cons.injEq, and_true] at e0 e1 e2 e3 e4 e5
    subst e0 e1 e2 e3 e4 e5
    obtain ⟨q0, r0⟩ := u32_in w0
    obtain ⟨q5, r5⟩ := u8_lt w5
    obtain ⟨t0, rfl⟩ := Int.eq_ofNat_of_zero_le q0
    obtain ⟨t5, rfl⟩ := Int.eq_ofNat_of_zero_le q5
    exact ⟨t0, m1, m2, s3, b4, t5, by omega, i32_lt w1, i32_lt w2, by unfold maxLen at w3; exact w3, by omega, rfl⟩
end
end Go.Proofs.YtgnoikfmhncbmaaGreatDoor

namespace Go.Proofs.YtgnoikfmhncbmaaGreatDoor
open Go.RowKit Go.Lib Go.ChangeShapes Go.WideShapes Go.ChangeAt Go.Deep
section
variable {H : Type} {enc : TypeId × Value → H} {w : World} {base : Nat} {spare : Nat → Bool} {held : Bool}
theorem open_u8c {fuel : Nat} {cs : List Value} {x : DataW H × List MemPlace} (h : DataW.trod enc Tryz.prog w base spare held fuel 5 cs = some x) : ∃ n : Nat, n < 256 ∧ cs = u8C n := by
  obtain ⟨m, e, _, hw⟩ := DataW.trod_int Tryz.underlying5 h
  obtain ⟨k0, l0⟩ := u8_lt hw
  obtain ⟨t, rfl⟩ := Int.eq_ofNat_of_zero_le k0
  exact ⟨t, by omega, e⟩
theorem open_u8s {fuel : Nat} {a0 : Option Addr} {len0 cap0 : Nat} {x : DataW H × List MemPlace} (h : DataW.trod enc Tryz.prog w base spare held fuel 74 [.slice a0 len0 cap0] = some x) (hw : ∀ n ∈ x.1.weights Tryz.prog 74, n ≤ reachBytes) :
    ∃ l : List Nat, l.length = len0 ∧ (∀ c ∈ l, c < 256) ∧ Rd w (.slice a0 len0 cap0) len0 (u8Cells l) ∧ len0 ≤ 9223372036854775807 :=
  open_flat u8C 1 (fun _ => rfl) (by omega) (fun c => c < 256) Tryz.underlying74 cellsU8 (fun fuel cs x hh _ => open_u8c hh) h hw
theorem u16_in {n : Int} (h : (Lit.int .u16 n).wf = true) : 0 ≤ n ∧ n < 65536 := by
  simp only [Lit.wf, Bool.and_eq_true, decide_eq_true_eq] at h
  have e1 : IntKind.min .u16 = 0 := by decide
  have e2 : IntKind.max .u16 = 65535 := by decide
  rw [e1, e2] at h
  omega
set_option maxRecDepth 100000 in
theorem open_u16 {r : Reach} {b0 : Nat} {v : Value} {d : DataW H} {p : List MemPlace} (hv : Value.okWide Tryz.prog w r b0 61 v) (h : DataW.Trod enc Tryz.prog w base spare held 61 v d p) : ∃ n : Nat, v = .int .u16 (n : Int) ∧ n < 65536 := by
  obtain ⟨n, rfl⟩ := okWide_int Tryz.underlying61 hv
  obtain ⟨fuel, hf⟩ := h
  have hf2 : DataW.trod enc Tryz.prog w base spare held fuel 61 [.int .u16 n] = some (d, p) := hf
  obtain ⟨m, e, _, hw⟩ := DataW.trod_int Tryz.underlying61 hf2
  simp only [List.cons.injEq, and_true] at e
  injection e with _ e
  subst e
  obtain ⟨k0, l0⟩ := u16_in hw
  obtain ⟨t, rfl⟩ := Int.eq_ofNat_of_zero_le k0
  exact ⟨t, rfl, by omega⟩
theorem slice_is {P : Program} {t e : TypeId} (ht : P.underlying t = some (.slice e)) {fuel : Nat} {c : Value} {x : DataW H × List MemPlace} (h : DataW.trod enc P w base spare held fuel t [c] = some x) : ∃ a n k, c = .slice a n k := by
  rcases open_slice ht h with ⟨hcs, _⟩ | ⟨a, len, cap, m, n, D, Pl, hcs, _⟩
  · simp only [List.cons.injEq, and_true] at hcs
    exact ⟨_, _, _, hcs⟩
  · simp only [List.cons.injEq, and_true] at hcs
    exact ⟨_, _, _, hcs⟩
theorem cellsStmt : Tryz.prog.cellsOf 76 = 7 := by kernel_rfl
set_option maxHeartbeats 4000000 in
set_option maxRecDepth 100000 in
theorem open_stmt {r : Reach} {b0 : Nat} {v : Value} {d : DataW H} {pl : List MemPlace} (hv : Value.okWide Tryz.prog w r b0 76 v) (h : DataW.Trod enc Tryz.prog w base spare held 76 v d pl) (hw : ∀ n ∈ d.weights Tryz.prog 76, n ≤ reachBytes) :
    ∃ (k : Nat) (tb : ByteArray) (ac : Option Addr) (cc : Nat) (cl : List Nat) (aw : Option Addr) (cw : Nat) (nl : List Nd) (od : ByteArray) (ds : Bool) (lm : Int), (∀ n ∈ cl, n < 256) ∧ Rd w (.slice ac cl.length cc) cl.length (u8Cells cl) ∧ cl.length ≤ 9223372036854775807 ∧
      (∀ c ∈ nl, c.Fit) ∧ Rd w (.slice aw nl.length cw) nl.length (ndCells nl) ∧
      v = .agg #[.int .u8 (k : Int), .string tb, .slice ac cl.length cc, .slice aw nl.length cw, .string od, .bool ds, .int .i64 lm] := by
  obtain ⟨cs, rfl, hsz⟩ := okWide_struct Tryz.underlying76 hv
  rw [cellsStmt] at hsz
  obtain ⟨fuel, hf⟩ := h
  obtain ⟨l⟩ := cs
  match l, hsz with
  | [c0, c1, c2, c3, c4, c5, c6], _ =>
    obtain ⟨xs, n, _, hx, _, hxl, hg⟩ := DataW.trod_struct Tryz.underlying76 hf
    have hx7 : xs.length = 7 := hxl
    have h0 := hg 0 _ rfl
    have h1 := hg 1 _ rfl
    have h2 := hg 2 _ rfl
    have h3 := hg 3 _ rfl
    have h4 := hg 4 _ rfl
    have h5 := hg 5 _ rfl
    have h6 := hg 6 _ rfl
    rw [List.getElem?_eq_getElem (by omega)] at h0 h1 h2 h3 h4 h5 h6
    have g0 : DataW.trod enc Tryz.prog w base spare held n 5 [c0] = some xs[0] := by rw [← h0]; rfl
    have g1 : DataW.trod enc Tryz.prog w base spare held n 9 [c1] = some xs[1] := by rw [← h1]; rfl
    have g2 : DataW.trod enc Tryz.prog w base spare held n 74 [c2] = some xs[2] := by rw [← h2]; rfl
    have g3 : DataW.trod enc Tryz.prog w base spare held n 22 [c3] = some xs[3] := by rw [← h3]; rfl
    have g4 : DataW.trod enc Tryz.prog w base spare held n 9 [c4] = some xs[4] := by rw [← h4]; rfl
    have g5 : DataW.trod enc Tryz.prog w base spare held n 4 [c5] = some xs[5] := by rw [← h5]; rfl
    have g6 : DataW.trod enc Tryz.prog w base spare held n 3 [c6] = some xs[6] := by rw [← h6]; rfl
    have hd : d = .agg (xs.map (·.1)) := congrArg Prod.fst hx
    have v2 : ∀ k ∈ (xs[2]).1.weights Tryz.prog 74, k ≤ reachBytes := fun k hk => hw k (by
      rw [hd]
      simp only [DataW.weights, Tryz.underlying76]
      exact DataW.weights_mem_each (j := 2) (t := 74) (d := xs[2].1) rfl (by rw [List.getElem?_map, List.getElem?_eq_getElem (by omega)]; rfl) _ hk)
    have v3 : ∀ k ∈ (xs[3]).1.weights Tryz.prog 22, k ≤ reachBytes := fun k hk => hw k (by
      rw [hd]
      simp only [DataW.weights, Tryz.underlying76]
      exact DataW.weights_mem_each (j := 3) (t := 22) (d := xs[3].1) rfl (by rw [List.getElem?_map, List.getElem?_eq_getElem (by omega)]; rfl) _ hk)
    obtain ⟨m0, e0, _, w0⟩ := DataW.trod_int Tryz.underlying5 g0
    obtain ⟨s1, e1, _, _⟩ := DataW.trod_string Tryz.underlying9 g1
    obtain ⟨ac, lc, cc, rfl⟩ := slice_is Tryz.underlying74 g2
    obtain ⟨aw, lw, cw, rfl⟩ := slice_is Tryz.underlying22 g3
    obtain ⟨cl, lc1, cl2, cl3, cl4⟩ := open_u8s g2 v2
    obtain ⟨nl, ln1, nl2, nl3, nl4⟩ := open_nodes g3 v3
    obtain ⟨s4, e4, _, _⟩ := DataW.trod_string Tryz.underlying9 g4
    obtain ⟨b5, e5, _⟩ := DataW.trod_bool Tryz.underlying4 g5
    obtain ⟨m6, e6, _, _⟩ := DataW.trod_int Tryz.underlying3 g6
    simp only [List.cons.injEq, and_true] at e0 e1 e4 e5 e6
    subst e0 e1 e4 e5 e6 lc1 ln1
    obtain ⟨q0, r0⟩ := u8_lt w0
    obtain ⟨t0, rfl⟩ := Int.eq_ofNat_of_zero_le q0
    exact ⟨t0, s1, ac, cc, cl, aw, cw, nl, s4, b5, m6, cl2, cl3, cl4, nl2, nl3, rfl⟩
end
end Go.Proofs.YtgnoikfmhncbmaaGreatDoor
