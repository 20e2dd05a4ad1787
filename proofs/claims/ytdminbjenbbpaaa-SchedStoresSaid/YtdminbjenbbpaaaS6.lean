/- One step of a run over Steps machines, as a whole state; Run. -/
import Derived.Test.YtdminbjenbbpaaaS5
import Derived.Test.YtdminbjenbbpaaaP1
namespace Go.Proofs.Ytdminbjenbbpaaa
open Go.RowKit

structure RM (B : Nat) (w : World) (br be : Nat) (msa : Option Addr) (cap : Nat) (sa : Option Addr) (sc : Nat) (ms : List (Option Nat)) (s : RS) : Prop where
  run : RunSt w br be (.slice msa ms.length cap) sa sc s.steps s.ended s.left
  mst : MSt w ms s.ls
  rd : Rd w (.slice msa ms.length cap) ms.length (ms.map mval)
  lenE : s.ended.length = ms.length
  lsb : ∀ (i : Nat) (n : Int), s.ls[i]? = some n → 0 ≤ n ∧ n ≤ 9223372036854775807
  left : s.left = alive ms s.ended
  bbr : B ≤ br
  bbe : B ≤ be
  bso : ∀ k, Value.ownBlock (.slice sa s.steps.length sc) = some k → B ≤ k
  bm : ∀ b, some b ∈ ms → B ≤ b
  sep : ∀ b, some b ∈ ms → b ≠ br ∧ b ≠ be ∧ Value.ownBlock (.slice sa s.steps.length sc) ≠ some b
  msep : ∀ k, Value.ownBlock (.slice msa ms.length cap) = some k → k ≠ br ∧ k ≠ be ∧ Value.ownBlock (.slice sa s.steps.length sc) ≠ some k ∧ some k ∉ ms

theorem getD_of {α : Type} {xs : List α} {i : Nat} {x : α} (d : α) (h : xs[i]? = some x) : xs.getD i d = x := by rw [List.getD, h]; rfl
theorem lt_of_get {α : Type} {xs : List α} {i : Nat} {x : α} (h : xs[i]? = some x) : i < xs.length := by
  rcases Nat.lt_or_ge i xs.length with h1 | h1
  · exact h1
  · rw [List.getElem?_eq_none h1] at h; cases h

/-- The blocks that a run may write. -/
def foot (br be : Nat) (own : Option Nat) (ms : List (Option Nat)) : Nat → Prop := fun k => k = br ∨ k = be ∨ own = some k ∨ some k ∈ ms
/-- What a step leaves: the state, what may have changed, where the log's slice lies. -/
def StepLeft (B : Nat) (w : World) (br be : Nat) (msa : Option Addr) (cap : Nat) (sa : Option Addr) (sc : Nat) (ms : List (Option Nat)) (s s' : RS) (w' : World) : Prop :=
  ∃ sa' sc', RM B w' br be msa cap sa' sc' ms s' ∧ Only (foot br be (Value.ownBlock (.slice sa s.steps.length sc)) ms) w w' ∧
    (∀ k, Value.ownBlock (.slice sa' s'.steps.length sc') = some k → Value.ownBlock (.slice sa s.steps.length sc) = some k ∨ w.heap.size ≤ k)
theorem step_rm (B : Nat) (w : World) (br be : Nat) (msa cap sa sc) (ms : List (Option Nat)) (s : RS) (h : RM B w br be msa cap sa sc ms s) (i : Nat) (hi : i < ms.length) (hsl : s.steps.length < 1099511627776) (hn : ms.length < 1099511627776) :
    Calls Try.prog 34 #[.pointer (some ⟨br, 0, none⟩), .int .i64 i] w fun e w' => e = .returned (.tuple #[]) ∧ StepLeft B w br be msa cap sa sc ms s (stepP ms s i) w' := by
  have hrd := h.rd
  have hBw : B ≤ w.heap.size := Nat.le_of_lt (Nat.lt_of_le_of_lt h.bbr h.run.run.lt)
  obtain ⟨bm, off, cap', hv, hcells⟩ := hrd.cells (by omega)
  simp only [Value.slice.injEq, true_and] at hv
  obtain ⟨rfl, rfl⟩ := hv
  have hx : ms[i]? = some (ms[i]'hi) := List.getElem?_eq_getElem hi
  generalize ms[i]'hi = x at hx
  have hc := hcells i _ (mvals_get ms i x hx)
  have hlE : i < s.ended.length := by rw [h.lenE]; exact hi
  cases x with
  | none =>
    refine (runstep_nil br be bm off sa sc s.steps s.ended s.left w i ms.length cap hi (by omega) h.run hc).mono ?_
    rintro e w' ⟨rfl, rfl⟩
    rw [show stepP ms s i = s from by simp only [stepP, hx]]
    exact ⟨rfl, sa, sc, h, Only.refl _ _, fun k hk => .inl hk⟩
  | some b =>
    by_cases he : s.ended.getD i 0 < 0
    · have hlL : i < s.ls.length := by rw [← h.mst.len]; exact hi
      have hls : s.ls[i]? = some (s.ls[i]'hlL) := List.getElem?_eq_getElem hlL
      have hD : s.ls.getD i 0 = s.ls[i]'hlL := getD_of 0 hls
      generalize s.ls[i]'hlL = n at hls hD
      obtain ⟨hn0, hn1⟩ := h.lsb i n hls
      have hH := h.mst.has i b n hx hls
      have hb := List.mem_of_getElem? hx
      obtain ⟨s1, s2, s3⟩ := h.sep b hb
      have hal := alive_set ms s.ended i b s.steps.length hx hlE he (by omega)
      have hal0 := alive_nonneg ms (s.ended.set i s.steps.length)
      have hal1 := alive_le ms s.ended
      have hcall : Hid (Calls Try.prog 24 #[.pointer (some ⟨b, 0, none⟩)] w (fun e w1 => e = .returned (.bool (decide (n ≤ 1))) ∧ MSt w1 ms (s.ls.set i (max (n - 1) 0)) ∧ Only (fun k => k = b) w w1)) := by
        refine (step_any b n w (hH.cell rfl) (hH.free 0) hn0 hn1).mono ?_
        rintro e w1 ⟨rfl, rfl⟩
        exact ⟨rfl, h.mst.set hx _, (Only.refl (fun k => k = b) w).setCell (a := ⟨b, 0, none⟩) (fun _ => rfl) _⟩
      refine (runstep_go br be bm off sa sc s.steps s.ended s.left w i ms.length cap hi (by omega) hlE h.run ⟨b, 0, none⟩ hc he (decide (n ≤ 1)) (fun w1 => MSt w1 ms (s.ls.set i (max (n - 1) 0))) (fun k => k = b)
        (fun e => s1 e.symm) (fun e => s2 e.symm) (fun k hk e => s3 (e ▸ hk)) hcall (by rw [h.left]; omega) hsl).mono ?_
      rintro e w' ⟨rfl, w1, sa', sc', hM, hO1, hO2, hR, hfr⟩
      refine ⟨rfl, sa', sc', ?_, (hO1.mono (fun k _ e => by subst e; exact .inr (.inr (.inr hb)))).trans (hO2.mono (fun k _ hk => by
        rcases hk with rfl | rfl | hk
        · exact .inl rfl
        · exact .inr (.inl rfl)
        · exact .inr (.inr (.inl hk)))), ?_⟩
      rotate_left
      · intro k hk
        have e0 : (stepP ms s i).steps.length = s.steps.length + 1 := by simp only [stepP, hx, he, if_true]; simp
        rw [e0] at hk
        rcases hfr k hk with h1 | h1
        · exact .inl h1
        · exact .inr (Nat.le_trans hO1.size h1)
      have e : stepP ms s i = { steps := s.steps ++ [(i : Int)], ended := if n ≤ 1 then s.ended.set i s.steps.length else s.ended, left := if n ≤ 1 then s.left - 1 else s.left, ls := s.ls.set i (max (n - 1) 0) } := by
        simp only [stepP, hx, he, if_true, hD]
      rw [e]
      have hslt : ∀ k, Value.ownBlock (.slice sa' (s.steps.length + 1) sc') = some k → ∀ k', k' < w.heap.size → Value.ownBlock (.slice sa s.steps.length sc) ≠ some k' → k ≠ k' := by
        intro k hk k' hk' hne e
        subst e
        rcases hfr k hk with h1 | h1
        · exact hne h1
        · have := hO1.size; omega
      have hms : ∀ b', some b' ∈ ms → b' < w.heap.size := h.mst.lt
      have hstL : ((s.steps ++ [(i : Int)]).length) = s.steps.length + 1 := by simp
      have hbmlt : bm < w.heap.size := by
        have := World.block_lt_of_cell? _ _ hc; simpa using this
      refine ⟨?_, ?_, ?_, ?_, ?_, ?_, h.bbr, h.bbe, ?_, h.bm, ?_, ?_⟩
      · simpa using hR
      · refine hM.only hO2 (fun b' hb' hk => ?_)
        obtain ⟨t1, t2, t3⟩ := h.sep b' hb'
        rcases hk with rfl | rfl | hk
        · exact t1 rfl
        · exact t2 rfl
        · exact t3 hk
      · refine (hrd.only hO1 (fun k hk e => ?_)).only hO2 (fun k hk e => ?_)
        · subst e; exact (h.msep k hk).2.2.2 hb
        · obtain ⟨t1, t2, t3, _⟩ := h.msep k hk
          rcases e with rfl | rfl | e
          · exact t1 rfl
          · exact t2 rfl
          · exact t3 e
      · show (if n ≤ 1 then s.ended.set i s.steps.length else s.ended).length = ms.length
        split
        · rw [List.length_set]; exact h.lenE
        · exact h.lenE
      · intro j m hj
        by_cases hji : j = i
        · subst hji
          rw [List.getElem?_set_self hlL] at hj
          simp only [Option.some.injEq] at hj
          omega
        · rw [List.getElem?_set_ne (Ne.symm hji)] at hj
          exact h.lsb j m hj
      · show (if n ≤ 1 then s.left - 1 else s.left) = alive ms (if n ≤ 1 then s.ended.set i s.steps.length else s.ended)
        split
        · rw [hal, h.left]
        · exact h.left
      · intro k hk
        rw [hstL] at hk
        rcases hfr k hk with h1 | h1
        · exact h.bso k h1
        · have := hO1.size; omega
      · intro b' hb'
        obtain ⟨t1, t2, t3⟩ := h.sep b' hb'
        refine ⟨t1, t2, fun hk => ?_⟩
        rw [hstL] at hk
        exact hslt b' hk b' (hms b' hb') t3 rfl
      · intro k hk
        obtain ⟨t1, t2, t3, t4⟩ := h.msep k hk
        refine ⟨t1, t2, fun hk' => ?_, t4⟩
        rw [hstL] at hk'
        have : k = bm := by simpa [Value.ownBlock] using hk.symm
        subst this
        exact hslt k hk' k hbmlt t3 rfl
    · refine (runstep_done br be bm off sa sc s.steps s.ended s.left w i ms.length cap hi (by omega) hlE h.run 46 _ hc (by omega)).mono ?_
      rintro e w' ⟨rfl, rfl⟩
      rw [show stepP ms s i = s from by simp only [stepP, hx, he, if_false]]
      exact ⟨rfl, sa, sc, h, Only.refl _ _, fun k hk => .inl hk⟩
end Go.Proofs.Ytdminbjenbbpaaa
