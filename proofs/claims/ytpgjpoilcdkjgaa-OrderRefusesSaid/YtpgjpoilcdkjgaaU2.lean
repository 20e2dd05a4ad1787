/- Events of any values; the reference's Check, and New where it refuses. -/
import Derived.Test.YtpgjpoilcdkjgaaU1
import Derived.Test.YtpgjpoilcdkjgaaO22
namespace Go.Proofs.Ytpgjpoilcdkjgaa
open Go.RowKit

/-- An event of any values: kind, thread, offset, value, old, line, n, choice. -/
structure GE where
  k : Nat
  t : Int
  off : Int
  val : Int
  old : Int
  line : Int
  n : Int
  ca : Option Addr
  cl : Nat
  cc : Nat
def GE.cells (e : GE) : List Value := [.int .u8 (e.k : Int), .int .i64 e.t, .int .u64 e.off, .int .u64 e.val, .int .u64 e.old, .int .i64 e.line, .int .i64 e.n, .slice e.ca e.cl e.cc]
def GE.rcells (e : GE) : List Value := [.int .i64 (e.k : Int), .int .i64 e.t, .int .u64 e.off, .int .u64 e.val, .int .u64 e.old, .int .i64 e.line, .int .i64 e.n, .int .i64 (e.cl : Int)]
structure GE.Fit (e : GE) : Prop where
  k : e.k < 256
  off : 0 ≤ e.off ∧ e.off < 18446744073709551616
  val : 0 ≤ e.val ∧ e.val < 18446744073709551616
  old : 0 ≤ e.old ∧ e.old < 18446744073709551616
def GE.valid (e : GE) : Bool := validP e.k e.t e.off e.val e.old e.line e.n e.cl
def geCells (es : List GE) : List Value := es.flatMap GE.cells
def grCells (es : List GE) : List Value := es.flatMap GE.rcells
theorem flat8_get {f : GE → List Value} (hf : ∀ e, (f e).length = 8) : ∀ (es : List GE) (i : Nat) (e : GE), es[i]? = some e → ∀ j v, (f e)[j]? = some v → (es.flatMap f)[i * 8 + j]? = some v
  | q :: es, 0, e, h, j, v, hj => by
    simp at h
    subst h
    have hl : j < (f q).length := by
      rcases Nat.lt_or_ge j (f q).length with h1 | h1
      · exact h1
      · rw [List.getElem?_eq_none h1] at hj; cases hj
    simp only [List.flatMap_cons, Nat.zero_mul, Nat.zero_add]
    rw [List.getElem?_append_left hl]; exact hj
  | q :: es, i + 1, e, h, j, v, hj => by
    have := flat8_get hf es i e (by simpa using h) j v hj
    have e1 : (i + 1) * 8 + j = (f q).length + (i * 8 + j) := by rw [hf]; omega
    simp only [List.flatMap_cons]
    rw [e1, List.getElem?_append_right (by omega), Nat.add_sub_cancel_left]
    exact this
  | [], _, _, h, _, _, _ => by simp at h
theorem geCells_get (es : List GE) (i : Nat) (e : GE) (h : es[i]? = some e) (j : Nat) (v : Value) (hj : e.cells[j]? = some v) : (geCells es)[i * 8 + j]? = some v := flat8_get (fun _ => rfl) es i e h j v hj
theorem grCells_get (es : List GE) (i : Nat) (e : GE) (h : es[i]? = some e) (j : Nat) (v : Value) (hj : e.rcells[j]? = some v) : (grCells es)[i * 8 + j]? = some v := flat8_get (fun _ => rfl) es i e h j v hj
theorem flat8_len {f : GE → List Value} (hf : ∀ e, (f e).length = 8) (es : List GE) : (es.flatMap f).length = 8 * es.length := by
  induction es with
  | nil => rfl
  | cons e r ih => rw [List.flatMap_cons, List.length_append, ih, hf, List.length_cons]; omega

def loopC : List GE → Int
  | [] => 0
  | e :: r => if e.valid then (if e.k = 6 ∨ e.k = 7 then 13 else loopC r) else 1
def codeC (lines : Int) (es : List GE) : Int := if lines < 1 ∨ 4096 < lines then 1 else if 20000 < es.length then 9 else loopC es
theorem loopC_at (es : List GE) (k : Nat) (d : GE) (h : k < es.length) : loopC (es.drop k) = if (es.getD k d).valid then (if (es.getD k d).k = 6 ∨ (es.getD k d).k = 7 then 13 else loopC (es.drop (k + 1))) else 1 := by
  rw [List.drop_eq_getElem_cons h, List.getD, List.getElem?_eq_getElem h]; rfl

def CkPost (w : World) (c : Int) (e : Ending) (w' : World) : Prop := e = .returned (.int .i64 c) ∧ Below w.heap.size w w'
def ge0 : GE := ⟨0, 0, 0, 0, 0, 0, 0, none, 0, 0⟩

set_option maxHeartbeats 4000000 in
set_option maxRecDepth 100000 in
theorem check_any (lines : Int) (es : List GE) (a : Option Addr) (cap : Nat) (w : World) (hr : Rd w (.slice a es.length cap) es.length (grCells es)) (hm : es.length ≤ 9223372036854775807) :
    Calls Try.prog 32 #[.int .i64 lines, .slice a es.length cap] w (CkPost w (codeC lines es)) := by
  obtain ⟨c, hc⟩ : ∃ c, codeC lines es = c := ⟨_, rfl⟩
  rw [hc]
  have hf0 : ∀ w', Below w.heap.size w w' → CkPost w c (.returned (.int .i64 c)) w' := fun w' h => ⟨rfl, h⟩
  generalize CkPost w c = post at *
  unfold codeC at hc
  by_cases h1 : lines < 1
  · rw [if_pos (.inl h1)] at hc
    have hz := Lib.hid (hf0 w (Below.refl _ _))
    have d1 : decide (lines < 1) = true := decide_eq_true h1
    subst hc
    clear hf0 hr
    go_enter Try.func32, Try.ntmps32
    go_wp2_with fail
    exact hz.out
  have d1 : decide (lines < 1) = false := decide_eq_false h1
  by_cases h2 : 4096 < lines
  · rw [if_pos (.inr h2)] at hc
    have hz := Lib.hid (hf0 w (Below.refl _ _))
    have d2 : decide (4096 < lines) = true := decide_eq_true h2
    subst hc
    clear hf0 hr
    go_enter Try.func32, Try.ntmps32
    go_wp2_with fail
    exact hz.out
  have d2 : decide (4096 < lines) = false := decide_eq_false h2
  rw [if_neg (by omega)] at hc
  by_cases h3 : 20000 < es.length
  · rw [if_pos h3] at hc
    have hz := Lib.hid (hf0 w (Below.refl _ _))
    have d3 : decide ((20000 : Int) < (es.length : Int)) = true := decide_eq_true (by omega)
    have d3N : decide (20000 < es.length) = true := decide_eq_true (by omega)
    subst hc
    clear hf0 hr
    go_enter Try.func32, Try.ntmps32
    go_wp2_with fail
    exact hz.out
  rw [if_neg h3] at hc
  have d3 : decide ((20000 : Int) < (es.length : Int)) = false := decide_eq_false (by omega)
  have d3N : decide (20000 < es.length) = false := decide_eq_false (by omega)
  have hll : (es.length : Int) ≤ 20000 := by omega
  replace hf0 := Lib.hid hf0
  replace hc := Lib.hid hc
  go_enter Try.func32, Try.ntmps32
  go_wp2_with fail
  go_loopw [18] (fun i wr => ∃ k : Nat, k ≤ es.length ∧ i = .int .i64 k ∧ loopC (es.drop k) = loopC es ∧ Below w.heap.size w wr) (fun i _ => es.length - (intOf i).toNat)
  case atStart => exact ⟨0, Nat.zero_le _, rfl, rfl, Below.refl _ _⟩
  case round =>
    obtain ⟨k, hk, rfl, hd, hB⟩ := hrel
    by_cases hlt : k < es.length
    · have he := get_of_lt ge0 hlt
      rw [loopC_at es k ge0 hlt] at hd
      generalize es.getD k ge0 = e at *
      obtain ⟨bl, ol, cl, ea, fa⟩ := (hr.kept hB).cells (by omega)
      simp only [Value.slice.injEq, true_and] at ea
      obtain ⟨rfl, hcap⟩ := ea
      replace hcap := Lib.hid hcap
      have c0 : wr.cell? ⟨bl, ol + k * 8, none⟩ = _ := fa _ _ (grCells_get es k e he 0 _ rfl)
      have c1 : wr.cell? ⟨bl, ol + k * 8 + 1, none⟩ = _ := fa _ _ (grCells_get es k e he 1 _ rfl)
      have c2 : wr.cell? ⟨bl, ol + k * 8 + 2, none⟩ = _ := fa _ _ (grCells_get es k e he 2 _ rfl)
      have c3 : wr.cell? ⟨bl, ol + k * 8 + 3, none⟩ = _ := fa _ _ (grCells_get es k e he 3 _ rfl)
      have c4 : wr.cell? ⟨bl, ol + k * 8 + 4, none⟩ = _ := fa _ _ (grCells_get es k e he 4 _ rfl)
      have c5 : wr.cell? ⟨bl, ol + k * 8 + 5, none⟩ = _ := fa _ _ (grCells_get es k e he 5 _ rfl)
      have c6 : wr.cell? ⟨bl, ol + k * 8 + 6, none⟩ = _ := fa _ _ (grCells_get es k e he 6 _ rfl)
      have c7 : wr.cell? ⟨bl, ol + k * 8 + 7, none⟩ = _ := fa _ _ (grCells_get es k e he 7 _ rfl)
      obtain ⟨b, hb⟩ : ∃ b, e.valid = b := ⟨_, rfl⟩
      rw [hb] at hd
      obtain ⟨kk, t, off, val, old, line, en, ca, cl2, cc⟩ := e
      simp only at c0 c1 c2 c3 c4 c5 c6 c7 hd
      unfold GE.valid at hb
      simp only at hb
      have hva := fun w => rvalid_any kk t off val old line en cl2 w
      rw [rvalid_eq] at hva
      rw [hb] at hva
      replace hb := Lib.hid hb
      replace hva := Lib.hid hva
      replace he := Lib.hid he
      have hlI : (k : Int) < es.length := by omega
      clear fa
      cases b
      case false =>
        rw [if_neg (by simp), hc.out] at hd
        subst hd
        replace hc := Lib.hid hc.out
        go_wp2_with fail
        refine (hva.out _).mono ?_
        rintro e' w1 ⟨rfl, hB1⟩
        have hB2 : Below w.heap.size w w1 := (hB.alloc hB.size _).trans (hB1.mono (by have := hB.size; simp; omega))
        have hz := Lib.hid (hf0.out w1 hB2)
        clear c0 c1 c2 c3 c4 c5 c6 c7 hf0
        go_wp2_with fail
        exact hz.out
      case true =>
        rw [if_pos rfl] at hd
        by_cases h67 : kk = 6 ∨ kk = 7
        · rw [if_pos h67, hc.out] at hd
          subst hd
          replace hc := Lib.hid hc.out
          cases q6 : ((kk : Int) == 6)
          case true =>
            replace h67 := Lib.hid h67
            go_wp2_with fail
            refine (hva.out _).mono ?_
            rintro e' w1 ⟨rfl, hB1⟩
            have x0 := ((Has.new wr [.int .i64 (kk : Int), .int .i64 t, .int .u64 off, .int .u64 val, .int .u64 old, .int .i64 line, .int .i64 en, .int .i64 (cl2 : Int)] 67).only (Only.of_below hB1) (by simp)).cell (o := 0) rfl
            have hB2 : Below w.heap.size w w1 := (hB.alloc hB.size _).trans (hB1.mono (by have := hB.size; simp; omega))
            have hz := Lib.hid (hf0.out w1 hB2)
            clear c0 c1 c2 c3 c4 c5 c6 c7 hf0
            go_wp2_with fail
            exact hz.out
          case false =>
            have q7 : ((kk : Int) == 7) = true := by
              rw [beq_iff_eq]; rw [beq_eq_false_iff_ne] at q6; omega
            replace h67 := Lib.hid h67
            go_wp2_with fail
            refine (hva.out _).mono ?_
            rintro e' w1 ⟨rfl, hB1⟩
            have x0 := ((Has.new wr [.int .i64 (kk : Int), .int .i64 t, .int .u64 off, .int .u64 val, .int .u64 old, .int .i64 line, .int .i64 en, .int .i64 (cl2 : Int)] 67).only (Only.of_below hB1) (by simp)).cell (o := 0) rfl
            have hB2 : Below w.heap.size w w1 := (hB.alloc hB.size _).trans (hB1.mono (by have := hB.size; simp; omega))
            have hz := Lib.hid (hf0.out w1 hB2)
            clear c0 c1 c2 c3 c4 c5 c6 c7 hf0
            go_wp2_with fail
            exact hz.out
        · rw [if_neg h67] at hd
          have q6 : ((kk : Int) == 6) = false := by rw [beq_eq_false_iff_ne]; omega
          have q7 : ((kk : Int) == 7) = false := by rw [beq_eq_false_iff_ne]; omega
          replace hd := Lib.hid hd
          replace h67 := Lib.hid h67
          go_wp2_with fail
          refine (hva.out _).mono ?_
          rintro e' w1 ⟨rfl, hB1⟩
          have x0 := ((Has.new wr [.int .i64 (kk : Int), .int .i64 t, .int .u64 off, .int .u64 val, .int .u64 old, .int .i64 line, .int .i64 en, .int .i64 (cl2 : Int)] 67).only (Only.of_below hB1) (by simp)).cell (o := 0) rfl
          have hB2 : Below w.heap.size w w1 := (hB.alloc hB.size _).trans (hB1.mono (by have := hB.size; simp; omega))
          clear c0 c1 c2 c3 c4 c5 c6 c7
          go_wp2_with fail
          go_roundw
          case rel => exact ⟨k + 1, by omega, by go_num, hd.out, hB2⟩
          case measure => simp [intOf]; omega
    · have hkk : ¬ (k : Int) < es.length := by omega
      rw [List.drop_of_length_le (by omega), hc.out] at hd
      have hd2 : (0 : Int) = c := hd
      subst hd2
      have hz := Lib.hid (hf0.out wr hB)
      clear hd hc
      go_wp2_with fail
      exact hz.out
end Go.Proofs.Ytpgjpoilcdkjgaa
