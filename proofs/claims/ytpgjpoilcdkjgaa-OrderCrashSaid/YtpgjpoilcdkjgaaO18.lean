/- The reference's mark and loose. -/
import Derived.Test.YtpgjpoilcdkjgaaQ1
import Derived.Test.YtpgjpoilcdkjgaaO15
namespace Go.Proofs.Ytpgjpoilcdkjgaa
open Go.RowKit

theorem ownsRow_get {w : World} {e : TypeId} {size n cap g : Nat} {xs : List Value} (h : w.ownsRow 0 e size (.slice (some ⟨g, 0, none⟩) n cap) n xs) {j : Nat} {u : Value} (hj : xs[j]? = some u) : w.cell? ⟨g, j, none⟩ = some u := by
  obtain ⟨h1, h2 | ⟨g', cap', cur, hv, _, hh, _, _, hz, ht⟩⟩ := h
  · cases h2.1
  · simp only [Value.slice.injEq, Option.some.injEq, Addr.mk.injEq] at hv
    obtain ⟨⟨rfl, _⟩, _⟩ := hv
    rw [← ht, List.getElem?_take] at hj
    split at hj
    · simp only [World.cell?, hh]; simpa using hj
    · cases hj
theorem ownsRow_free {w : World} {e : TypeId} {size n cap g : Nat} {xs : List Value} (h : w.ownsRow 0 e size (.slice (some ⟨g, 0, none⟩) n cap) n xs) (j : Nat) : w.frozen? ⟨g, j, none⟩ = false := by
  obtain ⟨h1, h2 | ⟨g', cap', cur, hv, _, hh, _, _, hz, ht⟩⟩ := h
  · cases h2.1
  · simp only [Value.slice.injEq, Option.some.injEq, Addr.mk.injEq] at hv
    obtain ⟨⟨rfl, _⟩, _⟩ := hv
    simp [World.frozen?, hh]
theorem ownsRow_set {w : World} {e : TypeId} {size n cap g : Nat} {xs : List Value} (h : w.ownsRow 0 e size (.slice (some ⟨g, 0, none⟩) n cap) n xs) (j : Nat) (u : Value) : (w.setCell ⟨g, j, none⟩ u).ownsRow 0 e size (.slice (some ⟨g, 0, none⟩) n cap) n (xs.set j u) := by
  obtain ⟨h1, h2 | ⟨g', cap', cur, hv, hb, hh, hn, hc, hz, ht⟩⟩ := h
  · cases h2.1
  · simp only [Value.slice.injEq, Option.some.injEq, Addr.mk.injEq] at hv
    obtain ⟨⟨rfl, _⟩, _, rfl⟩ := hv
    refine ⟨by simpa using h1, .inr ⟨g, cap, cur.setIfInBounds j u, rfl, hb, ?_, hn, hc, by simpa using hz, ?_⟩⟩
    · simp [World.setCell, Array.getElem?_modify, hh]
    · rw [Array.toList_setIfInBounds, List.take_set, ht]
theorem ownsRow_drew {w : World} {e : TypeId} {size n : Nat} {v : Value} {xs : List Value} (h : w.ownsRow 0 e size v n xs) : w.drew.ownsRow 0 e size v n xs := h

def RSt.cells (s : RSt) : List Value := [.int .i64 (s.line : Int), .int .u64 (s.off : Int), .int .u64 (s.val : Int), .bool s.mand]
def sCells (l : List RSt) : List Value := l.flatMap RSt.cells
theorem sCells_get : ∀ (l : List RSt) (i : Nat) (s : RSt), l[i]? = some s → ∀ j v, s.cells[j]? = some v → (sCells l)[i * 4 + j]? = some v
  | q :: l, 0, s, h, j, v, hj => by
    simp at h
    subst h
    have hl : j < q.cells.length := by
      rcases Nat.lt_or_ge j q.cells.length with h1 | h1
      · exact h1
      · rw [List.getElem?_eq_none h1] at hj; cases hj
    simp only [sCells, List.flatMap_cons, Nat.zero_mul, Nat.zero_add]
    rw [List.getElem?_append_left hl]; exact hj
  | q :: l, i + 1, s, h, j, v, hj => by
    have := sCells_get l i s (by simpa using h) j v hj
    have e1 : (i + 1) * 4 + j = q.cells.length + (i * 4 + j) := by show _ = 4 + _; omega
    simp only [sCells, List.flatMap_cons]
    rw [e1, List.getElem?_append_right (by omega), Nat.add_sub_cancel_left]
    exact this
  | [], _, _, h, _, _, _ => by simp at h
theorem sCells_length (l : List RSt) : (sCells l).length = l.length * 4 := by
  induction l with
  | nil => rfl
  | cons s l ih => simp only [sCells, List.flatMap_cons, List.length_append, List.length_cons] at *; rw [ih]; show 4 + _ = _; omega
theorem sCells_set : ∀ (l : List RSt) (i : Nat) (s : RSt), l[i]? = some s → (sCells l).set (i * 4 + 3) (.bool true) = sCells (l.set i { s with mand := true })
  | q :: l, 0, s, h => by simp at h; subst h; rfl
  | q :: l, i + 1, s, h => by
    have := sCells_set l i s (by simpa using h)
    have e1 : (i + 1) * 4 + 3 = q.cells.length + (i * 4 + 3) := by show _ = 4 + _; omega
    simp only [sCells, List.flatMap_cons, List.set_cons_succ] at *
    rw [e1, List.set_append_right _ _ (by omega), Nat.add_sub_cancel_left, this]
  | [], _, _, h => by simp at h

theorem loosB_at (line : Nat) (s : RSt) : loosB line s = (((s.line : Int) == (line : Int)) && !s.mand) := by
  unfold loosB
  congr 1
  rw [Bool.eq_iff_iff]; simp; omega
def StR (w : World) (sa : Option Addr) (cap : Nat) (l : List RSt) : Prop := w.ownsRow 0 57 4 (.slice sa l.length cap) l.length (sCells l)

set_option maxHeartbeats 4000000 in
set_option maxRecDepth 100000 in
theorem mark_any (sa : Option Addr) (cap : Nat) (l : List RSt) (line n most : Nat) (w : World) (h : StR w sa cap l) (hl : l.length ≤ 20000) (hn : n ≤ l.length) (hm : most ≤ 4294967296) :
    Calls Try.prog 72 #[.slice sa l.length cap, .int .i64 line, .int .i64 n, .int .i64 most] w fun e w' => e = .returned (.tuple #[]) ∧ StR w' sa cap (mkP l line n most) ∧ Only (fun k => Value.ownBlock (.slice sa l.length cap) = some k) w w' := by
  generalize hpost : (fun (e : Ending) (w' : World) => e = .returned (.tuple #[]) ∧ StR w' sa cap (mkP l line n most) ∧ Only (fun k => Value.ownBlock (.slice sa l.length cap) = some k) w w') = post
  replace hpost := Lib.hid hpost
  have h0 : StR w sa cap (mkP l line 0 most) := by rw [mkP_zero]; exact h
  have hcal := @looseP_take_le l line
  go_enter Try.func72, Try.ntmps72
  go_wp2_with fail
  go_loopw [3, 8] (fun m i wr => ∃ k : Nat, k ≤ n ∧ i = .int .i64 k ∧ m = .int .i64 ((most - looseP (l.take k) line : Nat) : Int) ∧ StR wr sa cap (mkP l line k most) ∧ Only (fun k => Value.ownBlock (.slice sa l.length cap) = some k) w wr) (fun _ i _ => n - (intOf i).toNat)
  case atStart => exact ⟨0, by omega, rfl, by simp [looseP], h0, Only.refl _ _⟩
  case round =>
    clear h0 h
    obtain ⟨k, hk, rfl, rfl, hS, hO⟩ := hrel
    by_cases hlt : k < n
    · have hkl : k < l.length := by omega
      have hnI : (k : Int) < n := by omega
      have hlI : (k : Int) < l.length := by omega
      have hat := mkP_at l line k most hkl
      have hsucc := looseP_take_succ l line k hkl
      have hhit := mkP_hit l line k most hkl
      have hmiss := mkP_miss l line k most hkl
      unfold hitB at hhit hmiss
      rw [loosB_at] at hsucc hhit hmiss
      have hlk := hcal k
      have hlen := mkP_length l line k most
      have hS' := hS
      unfold StR at hS'
      rw [hlen] at hS'
      obtain ⟨g, rfl⟩ : ∃ g, sa = some ⟨g, 0, none⟩ := by
        rcases hS'.2 with h2 | ⟨g, _, _, hv, _⟩
        · omega
        · simp only [Value.slice.injEq] at hv; exact ⟨g, hv.1⟩
      have c0 : wr.cell? ⟨g, k * 4, none⟩ = _ := ownsRow_get hS' (sCells_get _ k _ hat 0 _ rfl)
      have c3 : wr.cell? ⟨g, k * 4 + 3, none⟩ = _ := ownsRow_get hS' (sCells_get _ k _ hat 3 _ rfl)
      have f3 := ownsRow_free hS' (k * 4 + 3)
      have hset := ownsRow_set hS' (k * 4 + 3) (.bool true)
      rw [sCells_set _ k _ hat] at hset
      have hOset := hO.setCell (a := ⟨g, k * 4 + 3, none⟩) (fun _ => rfl) (.bool true)
      generalize looseP (l.take k) line = lo at *
      generalize l.getD k RSt.zero = s at *
      cases hb : (((s.line : Int) == (line : Int)) && !s.mand && decide (lo < most)) with
      | true =>
        have e1 := hhit hb
        rw [← e1] at hset
        simp only [Bool.and_eq_true, decide_eq_true_eq] at hb
        obtain ⟨⟨b1, b2⟩, b3⟩ := hb
        rw [b1, b2] at hsucc
        simp only [Bool.and_self, if_true] at hsucc
        have b2' : s.mand = false := by simpa using b2
        have b3I : (0 : Int) < ((most - lo : Nat) : Int) := by omega
        have b3d : decide ((0 : Int) < ((most - lo : Nat) : Int)) = true := decide_eq_true b3I
        have hmv : ((most - lo : Nat) : Int) - 1 = ((most - (lo + 1) : Nat) : Int) := by omega
        rw [b2'] at c3
        generalize hmm : ((most - lo : Nat) : Int) = mm at *
        have hmb : mm ≤ 4294967296 := by omega
        replace hmm := Lib.hid hmm
        replace hmv := Lib.hid hmv
        replace hset := Lib.hid hset
        replace hOset := Lib.hid hOset
        replace hsucc := Lib.hid hsucc
        replace hat := Lib.hid hat
        replace e1 := Lib.hid e1
        replace hlen := Lib.hid hlen
        clear hhit hmiss hS hS' hO b2
        go_wp2_with fail
        go_roundw
        case rel => exact ⟨k + 1, by omega, by go_num, by rw [hsucc.out, ← hmv.out], by unfold StR; rw [mkP_length]; exact hset.out, hOset.out⟩
        case measure => simp [intOf]; omega
      | false =>
        have e1 := hmiss hb
        have hkeep : most - looseP (l.take (k + 1)) line = most - lo := by
          rw [hsucc]
          by_cases hx : (((s.line : Int) == (line : Int)) && !s.mand) = true
          · rw [if_pos hx]
            rw [hx, Bool.true_and, decide_eq_false_iff_not] at hb
            omega
          · rw [if_neg hx, Nat.add_zero]
        have hrel := (⟨k + 1, by omega, rfl, by rw [hkeep], by rw [e1]; exact hS, hO⟩ : ∃ k1 : Nat, k1 ≤ n ∧ (k + 1 : Nat) = k1 ∧ ((most - lo : Nat) : Int) = ((most - looseP (l.take k1) line : Nat) : Int) ∧ StR wr (some ⟨g, 0, none⟩) cap (mkP l line k1 most) ∧ Only (fun k => Value.ownBlock (.slice (some ⟨g, 0, none⟩) l.length cap) = some k) w wr)
        replace hrel := Lib.hid hrel
        clear hkeep e1 hset hOset hhit hmiss hS hS' hO hsucc hlen
        replace hat := Lib.hid hat
        cases b1 : ((s.line : Int) == (line : Int)) with
        | false =>
          clear hb
          go_wp2_with fail
          go_roundw
          case rel => obtain ⟨k1, q1, q2, q3, q4, q5⟩ := hrel.out; exact ⟨k1, q1, by rw [← q2]; go_num, by rw [q3], q4, q5⟩
          case measure => simp [intOf]; omega
        | true =>
          cases b2 : s.mand with
          | true =>
            rw [b2] at c3
            clear hb
            go_wp2_with fail
            go_roundw
            case rel => obtain ⟨k1, q1, q2, q3, q4, q5⟩ := hrel.out; exact ⟨k1, q1, by rw [← q2]; go_num, by rw [q3], q4, q5⟩
            case measure => simp [intOf]; omega
          | false =>
            rw [b1, b2, Bool.not_false, Bool.true_and, Bool.true_and, decide_eq_false_iff_not] at hb
            rw [b2] at c3
            have hz : most - lo = 0 := by omega
            have b3d : decide ((0 : Int) < ((most - lo : Nat) : Int)) = false := decide_eq_false (by omega)
            replace hz := Lib.hid hz
            generalize hmm : ((most - lo : Nat) : Int) = mm at *
            replace hmm := Lib.hid hmm
            clear b2
            go_wp2_with fail
            go_roundw
            case rel => obtain ⟨k1, q1, q2, q3, q4, q5⟩ := hrel.out; exact ⟨k1, q1, by rw [← q2]; go_num, by rw [← q3], q4, q5⟩
            case measure => simp [intOf]; omega
    · obtain rfl : k = n := by omega
      have hnI : ¬ (k : Int) < (k : Int) := by omega
      go_wp2_with fail
      refine bodyPost_end (results_none rfl _ _ _) rfl ?_
      rw [← hpost.out]
      exact ⟨rfl, hS, hO⟩

set_option maxHeartbeats 4000000 in
set_option maxRecDepth 100000 in
theorem loose_any (sa : Option Addr) (cap : Nat) (l : List RSt) (line : Nat) (w : World) (h : Rd w (.slice sa l.length cap) l.length (sCells l)) (hl : l.length ≤ 20000) :
    Calls Try.prog 48 #[.slice sa l.length cap, .int .i64 line] w fun e w' => e = .returned (.int .i64 (looseP l line : Nat)) ∧ Below w.heap.size w w' := by
  have hcal := @looseP_take_le l line
  have hend : looseP l line = looseP (l.take l.length) line := by rw [List.take_of_length_le (Nat.le_refl _)]
  rw [hend]
  clear hend
  go_enter Try.func48, Try.ntmps48
  go_wp2_with fail
  go_loopw [5, 10] (fun m i wr => ∃ k : Nat, k ≤ l.length ∧ i = .int .i64 k ∧ m = .int .i64 ((looseP (l.take k) line : Nat) : Int) ∧ Below w.heap.size w wr) (fun _ i _ => l.length - (intOf i).toNat)
  case atStart => exact ⟨0, by omega, rfl, by simp [looseP], Below.refl _ _⟩
  case round =>
    obtain ⟨k, hk, rfl, rfl, hB⟩ := hrel
    by_cases hlt : k < l.length
    · have hlI : (k : Int) < l.length := by omega
      obtain ⟨b, off, c, e1, f⟩ := (h.kept hB).cells (by omega)
      simp only [Value.slice.injEq, true_and] at e1
      obtain ⟨rfl, hc⟩ := e1
      replace hc := Lib.hid hc
      have hat := get_of_lt RSt.zero hlt
      have hsucc := looseP_take_succ l line k hlt
      rw [loosB_at] at hsucc
      have hlk := hcal k
      generalize looseP (l.take k) line = lo at *
      generalize l.getD k RSt.zero = s at *
      have c0 : wr.cell? ⟨b, off + k * 4, none⟩ = _ := f _ _ (sCells_get _ k _ hat 0 _ rfl)
      have c1 : wr.cell? ⟨b, off + k * 4 + 1, none⟩ = _ := f _ _ (sCells_get _ k _ hat 1 _ rfl)
      have c2 : wr.cell? ⟨b, off + k * 4 + 2, none⟩ = _ := f _ _ (sCells_get _ k _ hat 2 _ rfl)
      have c3 : wr.cell? ⟨b, off + k * 4 + 3, none⟩ = _ := f _ _ (sCells_get _ k _ hat 3 _ rfl)
      have hBn := hB.alloc hB.size (.cells #[.int .i64 (s.line : Int), .int .u64 (s.off : Int), .int .u64 (s.val : Int), .bool s.mand] 57)
      replace hat := Lib.hid hat
      clear f
      cases b1 : ((s.line : Int) == (line : Int)) with
      | false =>
        rw [b1] at hsucc
        simp only [Bool.false_and, Bool.false_eq_true, if_false, Nat.add_zero] at hsucc
        replace hsucc := Lib.hid hsucc
        go_wp2_with fail
        go_roundw
        case rel => exact ⟨k + 1, by omega, by go_num, by rw [hsucc.out], hBn⟩
        case measure => simp [intOf]; omega
      | true =>
        cases b2 : s.mand with
        | true =>
          rw [b1, b2] at hsucc
          rw [b2] at c3 hBn
          simp only [Bool.not_true, Bool.and_false, Bool.false_eq_true, if_false, Nat.add_zero] at hsucc
          replace hsucc := Lib.hid hsucc
          clear b2
          go_wp2_with fail
          go_roundw
          case rel => exact ⟨k + 1, by omega, by go_num, by rw [hsucc.out], hBn⟩
          case measure => simp [intOf]; omega
        | false =>
          rw [b1, b2] at hsucc
          rw [b2] at c3 hBn
          simp only [Bool.not_false, Bool.and_true, if_true] at hsucc
          replace hsucc := Lib.hid hsucc
          clear b2
          go_wp2_with fail
          go_roundw
          case rel => exact ⟨k + 1, by omega, by go_num, by rw [hsucc.out]; go_num, hBn⟩
          case measure => simp [intOf]; omega
    · obtain rfl : k = l.length := by omega
      go_wp2_with fail
      go_ret
      exact ⟨rfl, hB⟩
end Go.Proofs.Ytpgjpoilcdkjgaa
