/- The walk of SchedNil. -/
import Derived.Test.YtdminbjenbbpaaaW5
namespace Go.Proofs.Ytdminbjenbbpaaa
open Go.RowKit

theorem finish_nil (bound : Int) (w : World) : Calls Try.prog 23 #[.nilIface, .int .i64 bound] w fun e w' => e = .returned (.bool false) ∧ w = w' := by
  go_enter Try.func23, Try.ntmps23
  go_wp2_with fail
  go_ret
  exact ⟨rfl, rfl⟩
theorem step_nil (w : World) : Calls Try.prog 24 #[.pointer none] w fun e w' => e = .returned (.bool true) ∧ w = w' := by
  go_enter Try.func24, Try.ntmps24
  go_wp2_with fail
  go_ret
  exact ⟨rfl, rfl⟩
theorem left_nil (w : World) : Calls Try.prog 22 #[.pointer none] w fun e w' => e = .returned (.int .i64 0) ∧ w = w' := by
  go_enter Try.func22, Try.ntmps22
  go_wp2_with fail
  go_ret
  exact ⟨rfl, rfl⟩

theorem run_none (w : World) (pa : Option Addr) (pc : Nat) (ps : List Int) (hps : Rd w (.slice pa ps.length pc) ps.length (ps.map (.int .i64))) (hpl : ps.length < 1099511627776) (hpi : ∀ p ∈ ps, -9223372036854775808 ≤ p ∧ p ≤ 9223372036854775807) :
    Calls Try.prog 13 #[.slice none 0 0, .slice pa ps.length pc] w fun e w' => ∃ sa sc ea ec, e = .returned (.agg #[.slice sa 0 sc, .slice ea 0 ec]) ∧ Below w.heap.size w w' := by
  have h := run_any w.heap.size w none 0 [] [] pa pc ps ⟨rfl, by simp, by simp⟩ (Rd.nil w) (by simp [Value.ownBlock]) (by simp) (Nat.le_refl _) (by simp) (by simp) hps (by simp) hpl hpi
  have e : ∀ qs, runP [] (startS [] []) qs = startS [] [] := by
    intro qs
    have key : ∀ (qs : List Int) s, qs.foldl (pickP []) s = s := by
      intro qs
      induction qs with
      | nil => intro s; rfl
      | cons q qs ih => intro s; rw [List.foldl_cons, show pickP [] s q = s from by simp [pickP]]; exact ih s
    exact key qs _
  rw [e] at h
  refine h.mono ?_
  rintro e w' ⟨sa, sc, ea, rfl, _, _, _, _, hB, _⟩
  exact ⟨sa, sc, ea, 0, rfl, hB⟩

theorem round_none (w : World) (bound : Int) (hb : -9223372036854775808 ≤ bound ∧ bound ≤ 9223372036854775807) :
    Calls Try.prog 18 #[.slice none 0 0, .int .i64 bound] w fun e w' => ∃ sa sc ea ec, e = .returned (.tuple #[.agg #[.slice sa 0 sc, .slice ea 0 ec], .bool true]) ∧ Below w.heap.size w w' := by
  have h := round_any w.heap.size w none 0 [] [] bound ⟨rfl, by simp, by simp⟩ (Rd.nil w) (by simp [Value.ownBlock]) (by simp) (Nat.le_refl _) (by simp) (by simp) hb 0 (by decide) ⟨rfl, rfl, rfl, by simp, by simp [startS, pot]⟩
  have e : ∀ f, rrP [] bound f (startS [] []) = startS [] [] := by
    intro f
    cases f with
    | zero => rfl
    | succ f => rw [rrP, if_neg (by simp [startS, cnt])]
  rw [e] at h
  refine h.mono ?_
  rintro e w' ⟨sa, sc, ea, rfl, _, _, _, hB, _⟩
  exact ⟨sa, sc, ea, 0, rfl, hB⟩

/-- What the machines nil and Of(k) come to. -/
theorem two_rr (b k : Nat) (h1 : 1 ≤ k) (h5 : k ≤ 5) : (rrP [none, some b] 10 11 (startS [none, some b] [0, (k : Int)])).steps = List.replicate k 1 ∧
    (rrP [none, some b] 10 11 (startS [none, some b] [0, (k : Int)])).ended = [-1, (k : Int) - 1] ∧ (rrP [none, some b] 10 11 (startS [none, some b] [0, (k : Int)])).left = 0 := by
  have : k = 1 ∨ k = 2 ∨ k = 3 ∨ k = 4 ∨ k = 5 := by omega
  rcases this with rfl | rfl | rfl | rfl | rfl <;> exact ⟨by kernel_rfl, by kernel_rfl, by kernel_rfl⟩

theorem round_two (B : Nat) (w : World) (b k : Nat) (ma : Option Addr) (hH : Has w b [.int .i64 k] 84) (hrd : Rd w (.slice ma 2 2) 2 [.nilIface, mval (some b)]) (hma : ∀ j, Value.ownBlock (.slice ma 2 2) = some j → j < w.heap.size ∧ j ≠ b) (hB : B ≤ b) (h1 : 1 ≤ k) (h5 : k ≤ 5) :
    Calls Try.prog 18 #[.slice ma 2 2, .int .i64 10] w fun e w' => ∃ sa sc ea ec, e = .returned (.tuple #[.agg #[.slice sa k sc, .slice ea 2 ec], .bool true]) ∧ Rd w' (.slice ea 2 ec) 2 ([-1, (k : Int) - 1].map (.int .i64)) ∧ Below B w w' := by
  have hM : MSt w [none, some b] [0, (k : Int)] := by
    refine ⟨rfl, ?_, ?_⟩
    · intro i j c hi hj
      match i, j, hi, hj with
      | 1, 1, _, _ => rfl
      | 0, _, hi, _ => simp at hi
      | _, 0, _, hj => simp at hj
      | i + 2, _, hi, _ => simp at hi
      | 1, j + 2, _, hj => simp at hj
    · intro i c n hi hn
      match i, hi, hn with
      | 1, hi, hn => simp at hi hn; subst hi hn; exact hH
      | 0, hi, _ => simp at hi
      | i + 2, hi, _ => simp at hi
  have hlt := hH.lt
  have h := round_any B w ma 2 [none, some b] [0, (k : Int)] 10 hM hrd (fun j hj => ⟨(hma j hj).1, by have := (hma j hj).2; simpa using this⟩) (by
      intro i n hi
      match i, hi with
      | 0, hi => simp at hi; omega
      | 1, hi => simp at hi; omega
      | i + 2, hi => simp at hi) (by omega) (by simpa using hB) (by simp) (by decide) 5 (by decide) ⟨rfl, rfl, by simp [startS, alive, cnt, List.replicate], by
      intro i c hi _
      match i, hi with
      | 1, _ => simp [startS]; omega
      | 0, hi => simp at hi
      | i + 2, hi => simp at hi, by simp [startS, pot, List.replicate]; omega⟩
  obtain ⟨e1, e2, e3⟩ := two_rr b k h1 h5
  refine h.mono ?_
  rintro e w' ⟨sa, sc, ea, he, _, h2, _, h4, _⟩
  rw [show ((10 : Int).toNat + 1) = 11 from rfl] at he h2
  rw [e1, e3] at he
  rw [e2] at h2
  exact ⟨sa, sc, ea, 2, by simpa using he, h2, h4⟩
end Go.Proofs.Ytdminbjenbbpaaa
