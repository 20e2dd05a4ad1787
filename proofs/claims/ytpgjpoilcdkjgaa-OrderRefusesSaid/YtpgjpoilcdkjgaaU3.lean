/- New where it refuses. -/
import Derived.Test.YtpgjpoilcdkjgaaU2
namespace Go.Proofs.Ytpgjpoilcdkjgaa
open Go.RowKit

def NbPost (w : World) (c : Int) (e : Ending) (w' : World) : Prop := e = .returned (.tuple #[.pointer none, .int .i64 c]) ∧ Below w.heap.size w w'
set_option maxHeartbeats 4000000 in
set_option maxRecDepth 100000 in
theorem newbad_any (lines : Int) (es : List GE) (a : Option Addr) (cap : Nat) (w : World) (hr : Rd w (.slice a es.length cap) es.length (geCells es)) (hm : es.length ≤ 9223372036854775807) (hbad : codeC lines es ≠ 0) :
    Calls Try.prog 14 #[.int .i64 lines, .slice a es.length cap] w (NbPost w (codeC lines es)) := by
  obtain ⟨c, hc⟩ : ∃ c, codeC lines es = c := ⟨_, rfl⟩
  rw [hc] at hbad ⊢
  have hf0 : ∀ w', Below w.heap.size w w' → NbPost w c (.returned (.tuple #[.pointer none, .int .i64 c])) w' := fun w' h => ⟨rfl, h⟩
  generalize NbPost w c = post at *
  unfold codeC at hc
  by_cases h1 : lines < 1
  · rw [if_pos (.inl h1)] at hc
    have hz := Lib.hid (hf0 w (Below.refl _ _))
    have d1 : decide (lines < 1) = true := decide_eq_true h1
    subst hc
    clear hf0 hr
    go_enter Try.func14, Try.ntmps14
    go_wp2_with fail
    exact hz.out
  have d1 : decide (lines < 1) = false := decide_eq_false h1
  by_cases h2 : 4096 < lines
  · rw [if_pos (.inr h2)] at hc
    have hz := Lib.hid (hf0 w (Below.refl _ _))
    have d2 : decide (4096 < lines) = true := decide_eq_true h2
    subst hc
    clear hf0 hr
    go_enter Try.func14, Try.ntmps14
    go_wp2_with fail
    exact hz.out
  have d2 : decide (4096 < lines) = false := decide_eq_false h2
  rw [if_neg (by omega)] at hc
  by_cases h3 : 20000 < es.length
  · rw [if_pos h3] at hc
    have hz := Lib.hid (hf0 w (Below.refl _ _))
    have d3 : decide ((20000 : Int) < (es.length : Int)) = true := decide_eq_true (by omega)
    have d3N : decide (20000 < es.length) = true := decide_eq_true (by omega)
    subst hc
    clear hf0 hr
    go_enter Try.func14, Try.ntmps14
    go_wp2_with fail
    exact hz.out
  rw [if_neg h3] at hc
  have d3 : decide ((20000 : Int) < (es.length : Int)) = false := decide_eq_false (by omega)
  have d3N : decide (20000 < es.length) = false := decide_eq_false (by omega)
  have hll : (es.length : Int) ≤ 20000 := by omega
  replace hf0 := Lib.hid hf0
  replace hc := Lib.hid hc
  go_enter Try.func14, Try.ntmps14
  go_wp2_with fail
  go_loopw [24] (fun i wr => ∃ k : Nat, k ≤ es.length ∧ i = .int .i64 k ∧ loopC (es.drop k) = loopC es ∧ Below w.heap.size w wr) (fun i _ => es.length - (intOf i).toNat)
  case atStart => exact ⟨0, Nat.zero_le _, rfl, rfl, Below.refl _ _⟩
  case round =>
    obtain ⟨k, hk, rfl, hd, hB⟩ := hrel
    by_cases hlt : k < es.length
    · have he := get_of_lt ge0 hlt
      rw [loopC_at es k ge0 hlt] at hd
      generalize es.getD k ge0 = e at *
      obtain ⟨bl, ol, cl, ea, fa⟩ := (hr.kept hB).cells (by omega)
      simp only [Value.slice.injEq, true_and] at ea
      obtain ⟨rfl, hcap⟩ := ea
      replace hcap := Lib.hid hcap
      have c0 : wr.cell? ⟨bl, ol + k * 8, none⟩ = _ := fa _ _ (geCells_get es k e he 0 _ rfl)
      have c1 : wr.cell? ⟨bl, ol + k * 8 + 1, none⟩ = _ := fa _ _ (geCells_get es k e he 1 _ rfl)
      have c2 : wr.cell? ⟨bl, ol + k * 8 + 2, none⟩ = _ := fa _ _ (geCells_get es k e he 2 _ rfl)
      have c3 : wr.cell? ⟨bl, ol + k * 8 + 3, none⟩ = _ := fa _ _ (geCells_get es k e he 3 _ rfl)
      have c4 : wr.cell? ⟨bl, ol + k * 8 + 4, none⟩ = _ := fa _ _ (geCells_get es k e he 4 _ rfl)
      have c5 : wr.cell? ⟨bl, ol + k * 8 + 5, none⟩ = _ := fa _ _ (geCells_get es k e he 5 _ rfl)
      have c6 : wr.cell? ⟨bl, ol + k * 8 + 6, none⟩ = _ := fa _ _ (geCells_get es k e he 6 _ rfl)
      have c7 : wr.cell? ⟨bl, ol + k * 8 + 7, none⟩ = _ := fa _ _ (geCells_get es k e he 7 _ rfl)
      obtain ⟨b, hb⟩ : ∃ b, e.valid = b := ⟨_, rfl⟩
      rw [hb] at hd
      obtain ⟨kk, t, off, val, old, line, en, ca, cl2, cc⟩ := e
      simp only at c0 c1 c2 c3 c4 c5 c6 c7 hd
      unfold GE.valid at hb
      simp only at hb
      have hva := fun w => valid_any kk t off val old line en ca cl2 cc w
      rw [hb] at hva
      replace hb := Lib.hid hb
      replace hva := Lib.hid hva
      replace he := Lib.hid he
      have hlI : (k : Int) < es.length := by omega
      clear fa
      cases b
      case false =>
        rw [if_neg (by simp), hc.out] at hd
        subst hd
        replace hc := Lib.hid hc.out
        go_wp2_with fail
        refine (hva.out _).mono ?_
        rintro e' w1 ⟨rfl, hB1⟩
        have hB2 : Below w.heap.size w w1 := (hB.alloc hB.size _).trans (hB1.mono (by have := hB.size; simp; omega))
        have hz := Lib.hid (hf0.out w1 hB2)
        clear c0 c1 c2 c3 c4 c5 c6 c7 hf0
        go_wp2_with fail
        exact hz.out
      case true =>
        rw [if_pos rfl] at hd
        by_cases h67 : kk = 6 ∨ kk = 7
        · rw [if_pos h67, hc.out] at hd
          subst hd
          replace hc := Lib.hid hc.out
          cases q6 : ((kk : Int) == 6)
          case true =>
            replace h67 := Lib.hid h67
            go_wp2_with fail
            refine (hva.out _).mono ?_
            rintro e' w1 ⟨rfl, hB1⟩
            have x0 := ((Has.new wr [.int .u8 (kk : Int), .int .i64 t, .int .u64 off, .int .u64 val, .int .u64 old, .int .i64 line, .int .i64 en, .slice ca cl2 cc] 65).only (Only.of_below hB1) (by simp)).cell (o := 0) rfl
            have hB2 : Below w.heap.size w w1 := (hB.alloc hB.size _).trans (hB1.mono (by have := hB.size; simp; omega))
            have hz := Lib.hid (hf0.out w1 hB2)
            clear c0 c1 c2 c3 c4 c5 c6 c7 hf0
            go_wp2_with fail
            exact hz.out
          case false =>
            have q7 : ((kk : Int) == 7) = true := by
              rw [beq_iff_eq]; rw [beq_eq_false_iff_ne] at q6; omega
            replace h67 := Lib.hid h67
            go_wp2_with fail
            refine (hva.out _).mono ?_
            rintro e' w1 ⟨rfl, hB1⟩
            have x0 := ((Has.new wr [.int .u8 (kk : Int), .int .i64 t, .int .u64 off, .int .u64 val, .int .u64 old, .int .i64 line, .int .i64 en, .slice ca cl2 cc] 65).only (Only.of_below hB1) (by simp)).cell (o := 0) rfl
            have hB2 : Below w.heap.size w w1 := (hB.alloc hB.size _).trans (hB1.mono (by have := hB.size; simp; omega))
            have hz := Lib.hid (hf0.out w1 hB2)
            clear c0 c1 c2 c3 c4 c5 c6 c7 hf0
            go_wp2_with fail
            exact hz.out
        · rw [if_neg h67] at hd
          have q6 : ((kk : Int) == 6) = false := by rw [beq_eq_false_iff_ne]; omega
          have q7 : ((kk : Int) == 7) = false := by rw [beq_eq_false_iff_ne]; omega
          replace hd := Lib.hid hd
          replace h67 := Lib.hid h67
          go_wp2_with fail
          refine (hva.out _).mono ?_
          rintro e' w1 ⟨rfl, hB1⟩
          have x0 := ((Has.new wr [.int .u8 (kk : Int), .int .i64 t, .int .u64 off, .int .u64 val, .int .u64 old, .int .i64 line, .int .i64 en, .slice ca cl2 cc] 65).only (Only.of_below hB1) (by simp)).cell (o := 0) rfl
          have hB2 : Below w.heap.size w w1 := (hB.alloc hB.size _).trans (hB1.mono (by have := hB.size; simp; omega))
          clear c0 c1 c2 c3 c4 c5 c6 c7
          go_wp2_with fail
          go_roundw
          case rel => exact ⟨k + 1, by omega, by go_num, hd.out, hB2⟩
          case measure => simp [intOf]; omega
    · rw [List.drop_of_length_le (by omega), hc.out] at hd
      exact absurd hd.symm hbad
end Go.Proofs.Ytpgjpoilcdkjgaa
