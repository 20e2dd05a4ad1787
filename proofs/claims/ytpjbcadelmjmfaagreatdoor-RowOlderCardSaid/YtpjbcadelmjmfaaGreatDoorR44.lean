/- The walk of RowBack. -/
import Derived.Test.YtpjbcadelmjmfaaGreatDoorR39
import Derived.Test.YtpjbcadelmjmfaaGreatDoorR41
import Derived.Test.YtpjbcadelmjmfaaGreatDoorR42
import Derived.Test.YtpjbcadelmjmfaaGreatDoorDec2
namespace Go.Proofs.YtpjbcadelmjmfaaGreatDoor
open Go.RowKit Go.Lib Go.BigFrame
set_option linter.unusedVariables false

/-- Encode: the encoding in a row of the call's own, or the error. -/
def EncV (w : World) (ver : Nat) (r : List RV) (P : Nat) (e : Ending) (w' : World) : Prop :=
  ∃ ea en ec, e = .returned (.tuple #[.slice ea en ec, .int .i64 (P : Int)]) ∧ Below w.heap.size w w' ∧ (P = 0 → en = (encP ver r).length ∧ RowB w 5 1 en (bcells (encP ver r)) ea ec w')
theorem EncV.ok {w : World} {ver : Nat} {r : List RV} {e : Ending} {w' : World} (h : EncPost w ver r e w') : EncV w ver r 0 e w' := by
  obtain ⟨sa, sc, he, hR⟩ := h
  exact ⟨sa, _, sc, he, hR.b, fun _ => ⟨rfl, hR⟩⟩
theorem EncV.bad {w : World} {ver P : Nat} {r : List RV} {e : Ending} {w' : World} (h0 : P ≠ 0) (h : RPost w (.tuple #[.slice none 0 0, .int .i64 (P : Int)]) e w') : EncV w ver r P e w' :=
  ⟨none, 0, 0, h.1, h.2, fun h => absurd h h0⟩
set_option maxHeartbeats 8000000 in
set_option maxRecDepth 100000 in
theorem back_walk (l : List LC) (hf : ∀ c ∈ l, c.t < 256 ∧ c.d.ty < 256 ∧ c.d.tx.size ≤ 9223372036854775807) (hll : l.length ≤ 9223372036854775807) (a : Option Addr) (cap : Nat)
    (r : List RV) (hrt : ∀ c ∈ r, c.ty < 256 ∧ c.tx.size ≤ 9223372036854775807) (hrl : r.length ≤ 9223372036854775807) (ra : Option Addr) (rc : Nat) (w : World) (hE : Env w)
    (hr : Rd w (.slice a l.length cap) l.length (lCells l)) (hrr : Rd w (.slice ra r.length rc) r.length (vCells r)) :
    Calls Tryz.prog 7 #[.slice a l.length cap, .slice ra r.length rc] w (fun e w' => e = .returned (.bool true) ∧ Below w.heap.size w w') := by
  have aw := fun w' (hb : Below w.heap.size w w') => awake_any w' (hE.below hb)
  have gr := fun w' (hb : Below w.heap.size w w') => great_any r ra rc w' (hrr.kept hb) hrl
  have tb := fun w' (hb : Below w.heap.size w w') => table_any l hf hll a cap w' (hr.kept hb)
  have hgn := @great_no r
  obtain ⟨n, hn⟩ : ∃ n, n = min l.length 8 := ⟨_, rfl⟩
  have hg := fun h0 => tab_good l n h0 (by omega) (fun c hc => (hf c hc).2.2)
  have hv1 := verAt_bd l n
  have hct := colsTo_len l n
  unfold TablePost at tb
  rw [← hn] at tb
  generalize colsTo l n = cs at *
  generalize verAt l n = ver at *
  obtain ⟨m, hm⟩ : ∃ m, m = l.length := ⟨_, rfl⟩
  obtain ⟨rl, hrl2⟩ : ∃ m, m = r.length := ⟨_, rfl⟩
  rw [← hm] at tb hn ⊢
  rw [← hrl2] at gr hgn ⊢
  generalize greatP r = g at *
  replace aw := Lib.hid aw
  replace gr := Lib.hid gr
  replace tb := Lib.hid tb
  replace hm := Lib.hid hm
  replace hrl2 := Lib.hid hrl2
  replace hg := Lib.hid hg
  replace hgn := Lib.hid hgn
  replace hv1 := Lib.hid hv1
  clear hr
  go_enter Tryz.func7, Tryz.ntmps7
  go_upto_region 1 with fail
  go_wp2_with fail
  refine (aw.out w (Below.refl _ _)).mono ?_
  rintro e w1 ⟨rfl, hb1⟩
  replace hb1 := Lib.hid hb1
  go_wp2_with fail
  refine (gr.out w1 hb1.out).mono ?_
  rintro e w2 ⟨rfl, hb12⟩
  have hb2 := hb1.out.trans (hb12.mono hb1.out.size)
  clear hb12 gr
  cases g with
  | true =>
    replace hb2 := Lib.hid hb2
    go_wp2_with fail
    refine (aw.out w2 hb2.out).mono ?_
    rintro e w3 ⟨rfl, hb23⟩
    have hff := hb2.out.trans (hb23.mono hb2.out.size)
    replace hff := Lib.hid hff
    clear hb23
    go_wp2_with fail
    go_ret
    exact ⟨rfl, hff.out⟩
  | false =>
    by_cases hm0 : m = 0
    · have d0 : ((m : Int) == 0) = true := by rw [beq_iff_eq]; omega
      replace hb2 := Lib.hid hb2
      replace hm0 := Lib.hid hm0
      go_wp2_with fail
      refine (aw.out w2 hb2.out).mono ?_
      rintro e w3 ⟨rfl, hb23⟩
      have hff := hb2.out.trans (hb23.mono hb2.out.size)
      replace hff := Lib.hid hff
      clear hb23
      go_wp2_with fail
      go_ret
      exact ⟨rfl, hff.out⟩
    · have d0 : ((m : Int) == 0) = false := by rw [beq_eq_false_iff_ne]; omega
      have hn0 : 0 < n := by omega
      have hn8 : n ≤ 8 := by omega
      have hG := hg.out hn0
      have hr20 := hgn.out rfl
      replace hb2 := Lib.hid hb2
      replace hm0 := Lib.hid hm0
      replace hn := Lib.hid hn
      clear hg hgn
      go_wp2_with fail
      refine (tb.out w2 hb2.out).mono ?_
      rintro e w3 ⟨sa, sc, rfl, hR⟩
      have hb3 := hb2.out.trans (hR.b.mono hb2.out.size)
      clear tb aw hb1
      obtain ⟨W4, hW4⟩ : ∃ W4, W4 = w3.alloc (.cells #[.string tagS, .int .i64 (ver : Int), .slice sa n sc, .slice none 0 0, .int .u64 0, .int .u64 0] 32) := ⟨_, rfl⟩
      have hT : Has W4 w3.heap.size [.string tagS, .int .i64 (ver : Int), .slice sa n sc, .slice none 0 0, .int .u64 0, .int .u64 0] 32 := by rw [hW4]; exact Has.new _ _ _
      have hb34 : Below w3.heap.size w3 W4 := by rw [hW4]; exact (Below.refl _ _).alloc (Nat.le_refl _) _
      have hb4 := hb3.trans (hb34.mono hb3.size)
      have hR4 := (Rd.of_own hR.o).kept hb34
      rw [← hct] at hR4
      have kT := fun w' (hb : Below W4.heap.size W4 w') => hT.only (Only.of_below hb) (Nat.not_le.2 hT.lt)
      have hrr4 := hrr.kept hb4
      have hls : ∀ v ∈ r, v.tx.size ≤ 9223372036854775807 := fun v hv => (hrt v hv).2
      have hrm := hrl2.out
      rw [hrl2.out] at hr20
      have kV := fun w' (hb : Below W4.heap.size W4 w') => values_any r (fun v hv => (hrt v hv).1) ra rc w' (hrr4.kept hb) (by omega)
      have kEok := fun hz w' (hb : Below W4.heap.size W4 w') => rowenc_ok One.tag hG hls (by omega) (hR4.kept hb) (hrr4.kept hb) (hE.below (hb4.trans (hb.mono hb4.size))) hz
      have kEbad := fun hz w' (hb : Below W4.heap.size W4 w') => rowenc_bad One.tag hG hls (by omega) (hR4.kept hb) (hrr4.kept hb) (hE.below (hb4.trans (hb.mono hb4.size))) hz
      have hncap : n ≤ sc := hR.cap
      have kD := fun (p : List Nat) (hp : ∀ x ∈ p, x < 256) (hpl : p.length ≤ 1000000) (pa : Option Addr) (pc : Nat) (hpc : p.length ≤ pc) w' (hb : Below W4.heap.size W4 w') (hrp : Rd w' (.slice pa p.length pc) p.length (bcells p)) => decode_any tagS 116 One.tag ver cs hG sa sc (by rw [hct]; exact hncap) p hp hpl pa pc hpc w' (hE.below (hb4.trans (hb.mono hb4.size))) (hR4.kept hb) hrp
      rw [← hrl2.out] at kV kEok kEbad
      rw [hct] at kEok kEbad kD
      obtain ⟨P, hP⟩ : ∃ P, P = rowP cs r := ⟨_, rfl⟩
      rw [← hP] at kEok kEbad
      have kE : ∀ w', Below W4.heap.size W4 w' → Calls Tryz.prog 16 #[.agg #[.string tagS, .int .i64 (ver : Int), .slice sa n sc, .slice none 0 0, .int .u64 0, .int .u64 0], .slice ra rl rc] w' (EncV w' ver r P) := by
        intro w' hb
        by_cases h0 : P = 0
        · rw [h0]
          exact (kEok h0 w' hb).mono fun _ _ h => EncV.ok h
        · exact (kEbad h0 w' hb).mono fun _ _ h => EncV.bad h0 h
      have t0 := hT.cell (o := 0) rfl
      have t1 := hT.cell (o := 1) rfl
      have t2 := hT.cell (o := 2) rfl
      have t3 := hT.cell (o := 3) rfl
      have t4 := hT.cell (o := 4) rfl
      have t5 := hT.cell (o := 5) rfl
      replace hW4 := Lib.hid hW4
      replace kT := Lib.hid kT
      replace kV := Lib.hid kV
      replace kE := Lib.hid kE
      replace kD := Lib.hid kD
      replace hP := Lib.hid hP
      replace hb3 := Lib.hid hb3
      replace hb34 := Lib.hid hb34
      replace hb4 := Lib.hid hb4
      replace hrm := Lib.hid hrm
      replace hct := Lib.hid hct
      clear hR hR4 hrr hrr4 hrl hf hll hT kEok kEbad
      go_upto_region 4 with fail
      rw [← hW4.out]
      go_wp2_with fail
      refine (kE.out W4 (Below.refl _ _)).mono ?_
      rintro e w5 ⟨ea, en, ec, rfl, hb45, henok⟩
      have hbw5 := hb4.out.trans (hb45.mono hb4.out.size)
      have Kt := kT.out w5 hb45
      clear t0 t1 t2 t3 t4 t5
      have t0 := Kt.cell (o := 0) rfl
      have t1 := Kt.cell (o := 1) rfl
      have t2 := Kt.cell (o := 2) rfl
      have t3 := Kt.cell (o := 3) rfl
      have t4 := Kt.cell (o := 4) rfl
      have t5 := Kt.cell (o := 5) rfl
      clear Kt
      replace henok := Lib.hid henok
      replace hbw5 := Lib.hid hbw5
      replace hb45 := Lib.hid hb45
      by_cases hP0 : P = 0
      · have dP : ((P : Int) != 0) = false := by simp [hP0]
        obtain ⟨hen, hRe⟩ := henok.out hP0
        have hz := hP.out.symm.trans hP0
        obtain ⟨hlr, _, hfo⟩ := rowP_ok hz
        have hl8 : r.length ≤ 8 := by have := hG.ok.len; omega
        have hbd := enc_bd hfo hl8 ver r.length
        rw [List.take_length] at hbd
        have h256 := encP_256 ver r hl8
        have hback := decP_back hG r hz
        have hcp := hRe.cap
        have hD : Calls Tryz.prog 31 #[.agg #[.string tagS, .int .i64 (ver : Int), .slice sa n sc, .slice none 0 0, .int .u64 0, .int .u64 0], .slice ea en ec] w5 (fun e w' => ∃ a c, e = .returned (.tuple #[.slice a rl c, .int .i64 0]) ∧ RowB w5 50 5 rl (vCells r) a c w') := by
          have hrd := hRe.rd
          rw [hen] at hrd hcp ⊢
          have h := kD.out (encP ver r) h256 (by omega) ea ec hcp w5 hb45.out hrd
          unfold DecPost at h
          rw [hback] at h
          simp only at h
          rw [← hrl2.out] at h
          exact h
        replace hP0 := Lib.hid hP0
        replace hen := Lib.hid hen
        replace hz := Lib.hid hz
        replace hback := Lib.hid hback
        replace hD := Lib.hid hD
        clear hRe hlr hbd h256
        go_wp2_with fail
        refine hD.out.mono ?_
        rintro e w6 ⟨qa, qc, rfl, hR6⟩
        have hb6 := hb45.out.trans (hR6.b.mono hb45.out.size)
        have q2 := kV.out w6 hb6
        have hq := hR6.rd
        replace q2 := Lib.hid q2
        replace hb6 := Lib.hid hb6
        replace hq := Lib.hid hq
        clear hD hR6 t0 t1 t2 t3 t4 t5
        go_wp2_with fail
        refine q2.out.mono ?_
        rintro e w7 ⟨va, vc, rfl, hR7⟩
        have hb7 := hb6.out.trans (hR7.b.mono hb6.out.size)
        have q3 : Calls Tryz.prog 32 #[.slice qa rl qc, .slice va rl vc] w7 (RPost w7 (.bool true)) := by
          have h1 := hq.out.kept hR7.b
          have h2 := hR7.rd
          rw [hrl2.out] at h1 h2 ⊢
          exact same_any r (fun v hv => (hrt v hv).1) (by omega) qa qc va vc w7 h1 h2
        replace q3 := Lib.hid q3
        replace hb7 := Lib.hid hb7
        clear q2 hq hR7
        go_wp2_with fail
        refine q3.out.mono ?_
        rintro e w8 ⟨rfl, hb78⟩
        have hb8 := hb7.out.trans (hb78.mono hb7.out.size)
        have hff := hb4.out.trans (hb8.mono hb4.out.size)
        replace hff := Lib.hid hff
        clear hb78 hb8 q3
        go_wp2_with fail
        go_ret
        exact ⟨rfl, hff.out⟩
      · have dP : ((P : Int) != 0) = true := by simp [hP0]
        replace hP0 := Lib.hid hP0
        go_wp2_with fail
        go_ret
        exact ⟨rfl, hbw5.out⟩
end Go.Proofs.YtpjbcadelmjmfaaGreatDoor
