/- The reference's has, Lines, Count, Cut. -/
import Derived.Test.YtpgjpoilcdkjgaaO24
import Derived.Test.YtpgjpoilcdkjgaaO5
namespace Go.Proofs.Ytpgjpoilcdkjgaa
open Go.RowKit

theorem refhas_any (va : Value) (set : List Int) (x : Int) (w : World) (hs : Rd w va set.length (set.map (.int .i64))) (hsl : set.length ≤ 9223372036854775807) :
    Calls Try.prog 49 #[va, .int .i64 x] w fun e w' => e = .returned (.bool (decide (x ∈ set))) ∧ w = w' := by
  obtain ⟨a, ca, rfl, hv⟩ := hs
  have hmem : decide (x ∈ set) = true ∨ decide (x ∈ set) = false := by cases decide (x ∈ set) <;> simp
  generalize hpost : (fun (e : Ending) (w' : World) => e = .returned (.bool (decide (x ∈ set))) ∧ w = w') = post
  replace hpost := Lib.hid hpost
  clear hmem
  go_enter Try.func49, Try.ntmps49
  go_wp2_with fail
  go_loop [9] (fun i => ∃ k : Nat, k ≤ set.length ∧ i = .int .i64 k ∧ Hid (∀ j, j < k → set.getD j 0 ≠ x)) (fun i => set.length - (intOf i).toNat)
  case atStart => exact ⟨0, by omega, rfl, fun j hj => by omega⟩
  case round =>
    obtain ⟨k, hk, rfl, hno⟩ := hrel
    by_cases hlt : k < set.length
    · rcases hv with ⟨h0, _⟩ | ⟨b, off, rfl, hv⟩
      · omega
      have c0 := hv k _ (ints_get set .i64 k hlt)
      have hmm : set.getD k 0 ∈ set := mem_getD 0 hlt
      have hstep : set.getD k 0 ≠ x → Hid (∀ j, j < k + 1 → set.getD j 0 ≠ x) := by
        intro h j hj
        rcases Nat.lt_or_ge j k with h1 | h1
        · exact hno j h1
        · have : j = k := by omega
          rw [this]; exact h
      clear hv
      generalize set.getD k 0 = y at *
      cases hq : (y == x) with
      | true =>
        have hy : y = x := by simpa using hq
        have hres : decide (x ∈ set) = true := decide_eq_true (hy ▸ hmm)
        rw [hres] at hpost
        replace hres := Lib.hid hres
        replace hy := Lib.hid hy
        replace hmm := Lib.hid hmm
        clear hstep
        go_wp2_with fail
        have hp : post (.returned (.bool true)) w := by rw [← hpost.out]; exact ⟨rfl, rfl⟩
        first | exact hp | (go_ret; exact hp)
      | false =>
        have hs := hstep (by simpa using hq)
        clear hstep
        replace hmm := Lib.hid hmm
        go_wp2_with fail
        go_round
        case rel => exact ⟨k + 1, by omega, by go_num, hs⟩
        case measure => simp [intOf]; omega
    · obtain rfl : k = set.length := by omega
      have hres : decide (x ∈ set) = false := by
        rw [decide_eq_false_iff_not]
        intro hm
        obtain ⟨j, hj, he⟩ := List.getElem_of_mem hm
        exact hno j hj (by rw [List.getD, List.getElem?_eq_getElem hj]; exact he)
      rw [hres] at hpost
      replace hres := Lib.hid hres
      go_wp2_with fail
      have hp : post (.returned (.bool false)) w := by rw [← hpost.out]; exact ⟨rfl, rfl⟩
      first | exact hp | (go_ret; exact hp)

def linesK (l : List RSt) (k : Nat) : List Nat := (List.range k).filter fun x => decide (0 < looseP l x)
theorem linesK_succ (l : List RSt) (k : Nat) : linesK l (k + 1) = linesK l k ++ if 0 < looseP l k then [k] else [] := by
  unfold linesK
  rw [List.range_succ, List.filter_append]
  congr 1
  by_cases h : 0 < looseP l k
  · rw [if_pos h, List.filter_cons, if_pos (decide_eq_true h)]; rfl
  · rw [if_neg h, List.filter_cons, if_neg (by simpa using h)]; rfl
theorem linesK_le (l : List RSt) (k : Nat) : (linesK l k).length ≤ k := by
  unfold linesK; have := List.length_filter_le (fun x => decide (0 < looseP l x)) (List.range k); simpa using this
theorem linesK_lt (l : List RSt) (k : Nat) : ∀ x ∈ linesK l k, x < k := by
  intro x hx; unfold linesK at hx; rw [List.mem_filter, List.mem_range] at hx; exact hx.1
theorem loose_at (sa : Option Addr) (cap : Nat) (l : List RSt) (N : Nat) (hN : l.length = N) (line : Nat) (w : World) (h : Rd w (.slice sa N cap) N (sCells l)) (hl : N ≤ 20000) :
    Calls Try.prog 48 #[.slice sa N cap, .int .i64 line] w fun e w' => e = .returned (.int .i64 (looseP l line : Nat)) ∧ Below w.heap.size w w' := by
  subst hN; exact loose_any sa cap l line w h hl

set_option maxHeartbeats 4000000 in
set_option maxRecDepth 100000 in
theorem lines_ref (sa : Option Addr) (cap : Nat) (l : List RSt) (N : Nat) (hN : l.length = N) (w : World) (h : Rd w (.slice sa N cap) N (sCells l)) (hl : N ≤ 20000) :
    Calls Try.prog 47 #[.slice sa N cap] w (NewNats w (linesK l 4096)) := by
  generalize hpost : NewNats w (linesK l 4096) = post
  replace hpost := Lib.hid hpost
  have hcal := fun k => linesK_le l k
  have hlo := fun line w h => loose_at sa cap l N hN line w h hl
  have hle := looseP_le l
  rw [hN] at hle
  replace hlo := Lib.hid hlo
  replace hN := Lib.hid hN
  go_enter Try.func47, Try.ntmps47
  go_wp2_with fail
  go_loopw [3, 4] (fun v i wr => ∃ (k : Nat) (oa : Option Addr) (oc : Nat), k ≤ 4096 ∧ i = .int .i64 k ∧ v = .slice oa (linesK l k).length oc ∧ wr.ownsRow 0 3 1 (.slice oa (linesK l k).length oc) (linesK l k).length (nats (linesK l k)) ∧
      Below w.heap.size w wr ∧ (∀ j, Value.ownBlock (.slice oa (linesK l k).length oc) = some j → w.heap.size ≤ j)) (fun _ i _ => 4096 - (intOf i).toNat)
  case atStart => exact ⟨0, none, 0, Nat.zero_le _, rfl, rfl, World.ownsRow_nil _ _ _ _, Below.refl _ _, by intro j hj; cases hj⟩
  case round =>
    obtain ⟨k, oa, oc, hk, rfl, rfl, hown, hB, hob⟩ := hrel
    by_cases hlt : k < 4096
    · have hlI : (k : Int) < 4096 := by omega
      have hl1 := hlo.out k wr (h.kept hB)
      have hsucc := linesK_succ l k
      have hlk := hcal k
      have hlek := hle k
      generalize looseP l k = lo at *
      replace hl1 := Lib.hid hl1
      have hloI : (lo : Int) ≤ 20000 := by omega
      by_cases hpos : 0 < lo
      · rw [if_pos hpos] at hsucc
        have hd : decide ((0 : Int) < (lo : Int)) = true := decide_eq_true (by omega)
        have hd' : decide (0 < lo) = true := decide_eq_true hpos
        replace hsucc := Lib.hid hsucc
        go_wp2_with fail
        refine hl1.out.mono ?_
        rintro e w1 ⟨rfl, hB1⟩
        have own1 := ownsRow_only hown (Only.of_below hB1) (fun j hj e => by have := ownsRow_lt hown hj; omega)
        have hBn := hB.trans (hB1.mono hB.size)
        generalize linesK l k = xs at *
        have hby : (xs.length + 1) * 8 ≤ 140737488355328 := by omega
        have hN1 := Has.new w1 [.int .i64 (k : Int)] 3
        have ho2 := own1.alloc (.cells #[.int .i64 (k : Int)] 3)
        have hB2 := hBn.alloc hBn.size (.cells #[.int .i64 (k : Int)] 3)
        clear hl1 hB1 hown
        go_wp2_with (at_builtin; refine wpList_app rfl (.tmp 13) (.tmp 15) 33 rfl 3 (.int .i64 0) 1 8 Try.underlying33 info3 rfl (by decide) (by decide) oa xs.length oc (nats xs) (by exact ho2) rfl _ 1 1 [.int .i64 (k : Int)] rfl rfl (by exact news_at hN1) (by simp [Value.oneCell']) (by exact hby) ?_)
        intro oa' oc' w4 own4 only4 fresh4
        have hB4 := hB2.trans (only4.below (B := w.heap.size) (by have := hB2.size; simp at this ⊢; omega) (fun j _ hj => hob j hj))
        have hob4 : ∀ j, Value.ownBlock (.slice oa' (xs.length + 1) oc') = some j → w.heap.size ≤ j := by
          intro j hj
          rcases fresh4 j hj with h1 | h1
          · exact hob j h1
          · have h1 : w1.heap.size + 1 ≤ j := by simpa using h1
            have := hBn.size
            omega
        have hle : (linesK l (k + 1)).length = xs.length + 1 := by rw [hsucc.out]; simp
        replace hle := Lib.hid hle
        replace hB4 := Lib.hid hB4
        replace hob4 := Lib.hid hob4
        replace own4 := Lib.hid own4
        clear only4 fresh4 hB2 ho2 hN1 own1 hBn
        go_wp2_with fail
        go_roundw
        case rel => exact ⟨k + 1, oa', oc', by omega, by go_num, by rw [hle.out], by rw [hle.out, hsucc.out]; simpa [nats] using own4.out, hB4.out, by rw [hle.out]; exact hob4.out⟩
        case measure => simp [intOf]; omega
      · rw [if_neg hpos, List.append_nil] at hsucc
        have hd : decide ((0 : Int) < (lo : Int)) = false := decide_eq_false (by omega)
        have hd' : decide (0 < lo) = false := decide_eq_false hpos
        replace hsucc := Lib.hid hsucc
        go_wp2_with fail
        refine hl1.out.mono ?_
        rintro e w1 ⟨rfl, hB1⟩
        have own1 := ownsRow_only hown (Only.of_below hB1) (fun j hj e => by have := ownsRow_lt hown hj; omega)
        have hBn := hB.trans (hB1.mono hB.size)
        clear hl1 hB1 hown
        go_wp2_with fail
        go_roundw
        case rel => exact ⟨k + 1, oa, oc, by omega, by go_num, by rw [hsucc.out], by rw [hsucc.out]; exact own1, hBn, by rw [hsucc.out]; exact hob⟩
        case measure => simp [intOf]; omega
    · obtain rfl : k = 4096 := by omega
      have hend : NewNats w (linesK l 4096) (.returned (.slice oa (linesK l 4096).length oc)) wr := ⟨oa, oc, rfl, hown, hB, hob⟩
      rw [hpost.out] at hend
      replace hend := Lib.hid hend
      go_wp2_with fail
      first | exact hend.out | (go_ret; exact hend.out)
end Go.Proofs.Ytpgjpoilcdkjgaa
