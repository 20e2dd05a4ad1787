/- The methods at a nil graph. -/
import Derived.Test.YtpgjpoilcdkjgaaU3
namespace Go.Proofs.Ytpgjpoilcdkjgaa
open Go.RowKit
def RPost (w : World) (v : Value) (e : Ending) (w' : World) : Prop := e = .returned v ∧ Below w.heap.size w w'
theorem nil_Stores (w : World) : Calls Try.prog 29 #[.pointer none] w fun e w' => e = .returned (.int .i64 0) ∧ w = w' := by
  go_enter Try.func29, Try.ntmps29
  go_wp2
  go_ret
  exact ⟨rfl, rfl⟩
theorem nil_Lines (w : World) : Calls Try.prog 28 #[.pointer none] w fun e w' => e = .returned (.int .i64 0) ∧ w = w' := by
  go_enter Try.func28, Try.ntmps28
  go_wp2
  go_ret
  exact ⟨rfl, rfl⟩
theorem nil_Mandatory (w : World) : Calls Try.prog 16 #[.pointer none] w fun e w' => e = .returned (.slice none 0 0) ∧ w = w' := by
  go_enter Try.func16, Try.ntmps16
  go_wp2
  go_ret
  exact ⟨rfl, rfl⟩
theorem nil_Closed (v : Value) (w : World) : Calls Try.prog 18 #[.pointer none, v] w fun e w' => e = .returned (.bool false) ∧ w = w' := by
  go_enter Try.func18, Try.ntmps18
  go_wp2
  go_ret
  exact ⟨rfl, rfl⟩
theorem nil_Count (w : World) : Calls Try.prog 33 #[.pointer none] w fun e w' => e = .returned (.tuple #[.int .u64 0, .bool false]) ∧ w = w' := by
  go_enter Try.func33, Try.ntmps33
  go_wp2
  go_ret2
  exact ⟨rfl, rfl⟩
theorem nil_has (w : World) : Calls Try.prog 44 #[.pointer none, .int .i64 0] w fun e w' => e = .returned (.bool false) ∧ w = w' := by
  go_enter Try.func44, Try.ntmps44
  go_wp2_with (go_at_call 29; refine (nil_Stores _).mono ?_; rintro e w' ⟨rfl, rfl⟩)
  go_ret
  exact ⟨rfl, rfl⟩
theorem nil_Before (w : World) : Calls Try.prog 19 #[.pointer none, .int .i64 0, .int .i64 0] w fun e w' => e = .returned (.bool false) ∧ w = w' := by
  go_enter Try.func19, Try.ntmps19
  go_wp2_with (go_at_call 44; refine (nil_has _).mono ?_; rintro e w' ⟨rfl, rfl⟩)
  go_ret
  exact ⟨rfl, rfl⟩
theorem nil_Image (w : World) : Calls Try.prog 23 #[.pointer none, .slice none 0 0] w fun e w' => e = .returned (.tuple #[.slice none 0 0, .int .i64 1]) ∧ w = w' := by
  go_enter Try.func23, Try.ntmps23
  go_wp2_with (go_at_call 18; refine (nil_Closed _ _).mono ?_; rintro e w' ⟨rfl, rfl⟩)
  go_ret2
  exact ⟨rfl, rfl⟩
theorem nil_Of (w : World) : Calls Try.prog 30 #[.pointer none, .int .i64 0] w fun e w' => e = .returned (.tuple #[.int .i64 (-1), .agg #[.int .u64 0, .int .u64 0]]) ∧ Below w.heap.size w w' := by
  go_enter Try.func30, Try.ntmps30
  go_wp2_with (go_at_call 44; refine (nil_has _).mono ?_; rintro e w' ⟨rfl, rfl⟩)
  refine bodyPost_ret (v := .tuple #[.int .i64 (-1), .agg #[.int .u64 0, .int .u64 0]]) (by simp [results, Try.results30, go_sem]) rfl ?_
  exact ⟨rfl, (Below.refl _ _).alloc (Nat.le_refl _) _⟩

/-- An event that the reference lets by, as New's texts have it. -/
def GE.ev (e : GE) : Ev := ⟨e.k, e.t.toNat, e.off.toNat, e.val.toNat, e.old.toNat, e.line.toNat, e.n, .slice e.ca e.cl e.cc⟩
theorem GE.good {e : GE} (h : e.Fit) (hv : e.valid = true) (h67 : ¬ (e.k = 6 ∨ e.k = 7)) : e.ev.Good ∧ e.ev.cells = e.cells := by
  obtain ⟨k, t, off, val, old, line, n, ca, cl, cc⟩ := e
  have h1 := h.off
  have h2 := h.val
  have h3 := h.old
  simp only [GE.valid] at hv h1 h2 h3 h67
  have hv0 := hv
  unfold validP at hv0
  (repeat' split at hv0) <;> first | (exfalso; exact absurd hv0 (by decide)) | skip
  obtain ⟨t', rfl⟩ := Int.eq_ofNat_of_zero_le (a := t) (by omega)
  obtain ⟨off', rfl⟩ := Int.eq_ofNat_of_zero_le h1.1
  obtain ⟨val', rfl⟩ := Int.eq_ofNat_of_zero_le h2.1
  obtain ⟨old', rfl⟩ := Int.eq_ofNat_of_zero_le h3.1
  obtain ⟨line', rfl⟩ := Int.eq_ofNat_of_zero_le (a := line) (by omega)
  have hk : 1 ≤ k ∧ k ≤ 5 ∧ (4 ≤ k → off' = 0) ∧ (k = 5 → 0 ≤ n) := by
    unfold kindB plB wdB at hv0
    (repeat' split at hv0) <;> simp at hv0 <;> omega
  refine ⟨⟨⟨⟨hk.1, hk.2.1⟩, ?_, ?_, ?_, ?_, ?_, hk.2.2.2, by show -1 ≤ n ∧ n ≤ 2147483647; omega⟩, hk.2.2.1, ca, cl, cc, rfl, hv⟩, rfl⟩
  all_goals (show _ < _; simp only [GE.ev, Int.toNat_natCast]; omega)
theorem loopC_ok : ∀ es : List GE, (∀ e ∈ es, e.Fit) → loopC es = 0 → (∀ e ∈ es.map GE.ev, e.Good) ∧ evCells (es.map GE.ev) = geCells es
  | [], _, _ => ⟨by simp, rfl⟩
  | e :: r, hf, h => by
    unfold loopC at h
    split at h
    · rename_i hv
      split at h
      · cases h
      · rename_i h67
        obtain ⟨g1, g2⟩ := GE.good (hf e List.mem_cons_self) hv h67
        obtain ⟨r1, r2⟩ := loopC_ok r (fun x hx => hf x (List.mem_cons_of_mem _ hx)) h
        refine ⟨?_, ?_⟩
        · intro x hx
          rw [List.map_cons, List.mem_cons] at hx
          rcases hx with rfl | hx
          · exact g1
          · exact r1 x hx
        · show (GE.ev e).cells ++ evCells (r.map GE.ev) = GE.cells e ++ geCells r
          rw [g2, r2]
    · cases h
end Go.Proofs.Ytpgjpoilcdkjgaa
