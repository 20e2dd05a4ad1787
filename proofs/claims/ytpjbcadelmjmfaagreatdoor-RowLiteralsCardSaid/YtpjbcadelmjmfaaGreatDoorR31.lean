/- The walk of the reference's Literal. -/
import Derived.Test.YtpjbcadelmjmfaaGreatDoorR29
set_option linter.unusedVariables false
namespace Go.Proofs.YtpjbcadelmjmfaaGreatDoor
open Go.RowKit Go.Lib

theorem unq_cons {c : UInt8} {r : List UInt8} (h : c ≠ 39) : unq (c :: r) = (unq r).map (c :: ·) := by
  cases r with
  | nil => simp [unq, h]
  | cons d r => rw [unq, if_neg h]
theorem unq_two (r : List UInt8) : unq (39 :: 39 :: r) = (unq r).map (39 :: ·) := by rw [unq, if_pos rfl, if_pos rfl]
theorem unq_one : unq [39] = none := by simp [unq]
theorem unq_bad {d : UInt8} {r : List UInt8} (h : d ≠ 39) : unq (39 :: d :: r) = none := by rw [unq, if_pos rfl, if_neg h]
def midL (s : ByteArray) : List UInt8 := (s.data.toList.take (s.data.toList.length - 1)).drop 1
theorem midL_len (s : ByteArray) : (midL s).length = s.size - 2 := by
  have : s.data.toList.length = s.size := by simp
  unfold midL
  rw [List.length_drop, List.length_take, this]
  omega
theorem midL_get (s : ByteArray) (k : Nat) (h : k < (midL s).length) : (midL s).getD k 0 = s.data.toList.getD (1 + k) 0 := by
  have hl := midL_len s
  have hs : s.data.toList.length = s.size := by simp
  unfold midL
  rw [List.getD, List.getElem?_drop, List.getElem?_take, if_pos (by omega)]
  rfl
def UnqR (q : List UInt8) (k : Nat) (acc : List UInt8) : Prop := k ≤ q.length ∧ acc.length ≤ k ∧ unq q = (unq (q.drop k)).map (acc ++ ·)
theorem UnqR.zero (q : List UInt8) : UnqR q 0 [] := ⟨by omega, by simp, by simp⟩
theorem drop_get {q : List UInt8} {k : Nat} (h : k < q.length) : q.drop k = q.getD k 0 :: q.drop (k + 1) := by
  rw [List.drop_eq_getElem_cons h, List.getD, List.getElem?_eq_getElem h]; rfl
theorem UnqR.one {q : List UInt8} {k : Nat} {acc : List UInt8} (h : UnqR q k acc) (hk : k < q.length) {c : UInt8} (hc : q.getD k 0 = c) (hne : c ≠ 39) : UnqR q (k + 1) (acc ++ [c]) := by
  obtain ⟨h1, h2, h3⟩ := h
  refine ⟨by omega, by simp; omega, ?_⟩
  rw [h3, drop_get hk, hc, unq_cons hne, Option.map_map]
  congr 1
  funext x
  simp
theorem UnqR.two {q : List UInt8} {k : Nat} {acc : List UInt8} (h : UnqR q k acc) (hk : k + 1 < q.length) (hc : q.getD k 0 = 39) (hd : q.getD (k + 1) 0 = 39) : UnqR q (k + 1 + 1) (acc ++ [39]) := by
  obtain ⟨h1, h2, h3⟩ := h
  refine ⟨by omega, by simp; omega, ?_⟩
  rw [h3, drop_get (show k < q.length by omega), hc, drop_get hk, hd, unq_two, Option.map_map]
  congr 1
  funext x
  simp
theorem UnqR.last {q : List UInt8} {k : Nat} {acc : List UInt8} (h : UnqR q k acc) (hk : k + 1 = q.length) (hc : q.getD k 0 = 39) : unq q = none := by
  obtain ⟨h1, h2, h3⟩ := h
  rw [h3, drop_get (show k < q.length by omega), hc, List.drop_of_length_le (by omega), unq_one]; rfl
theorem UnqR.bad {q : List UInt8} {k : Nat} {acc : List UInt8} (h : UnqR q k acc) (hk : k + 1 < q.length) (hc : q.getD k 0 = 39) {d : UInt8} (hd : q.getD (k + 1) 0 = d) (hne : d ≠ 39) : unq q = none := by
  obtain ⟨h1, h2, h3⟩ := h
  rw [h3, drop_get (show k < q.length by omega), hc, drop_get hk, hd, unq_bad hne]; rfl
theorem UnqR.done {q acc : List UInt8} (h : UnqR q q.length acc) : unq q = some acc := by
  obtain ⟨h1, h2, h3⟩ := h
  rw [h3, List.drop_of_length_le (by omega)]
  simp [unq]
def RLitPost (w : World) (x : RV × Nat) (e : Ending) (w' : World) : Prop := e = .returned (.tuple #[x.1.rval, .int .i64 (x.2 : Nat)]) ∧ Below w.heap.size w w'
theorem eq39 (c : UInt8) : ((c.toNat : Int) == 39) = decide (c = 39) := by
  rw [Bool.eq_iff_iff]
  simp only [beq_iff_eq, decide_eq_true_eq]
  constructor
  · intro h
    apply UInt8.toNat_inj.1
    have : (39 : UInt8).toNat = 39 := rfl
    omega
  · rintro rfl; rfl
set_option maxHeartbeats 4000000 in
set_option maxRecDepth 100000 in
theorem rlit_words (s : ByteArray) (hs : s.size ≤ 1000000) (w : World) (h : s.data.toList = nullL ∨ s.data.toList = trueL ∨ s.data.toList = falseL) :
    Calls Tryz.prog 28 #[.string s] w (RLitPost w (litP s.data.toList)) := by
  have e1 : (s.toList == [110, 117, 108, 108]) = decide (s.data.toList = nullL) := beqL s nullL
  have e2 : (s.toList == [116, 114, 117, 101]) = decide (s.data.toList = trueL) := beqL s trueL
  have e3 : (s.toList == [102, 97, 108, 115, 101]) = decide (s.data.toList = falseL) := beqL s falseL
  have hB : ∀ c : Array Value, Below w.heap.size w (w.alloc (.cells c 54)) := fun c => (Below.refl _ _).alloc (Nat.le_refl _) _
  rcases h with h | h | h
  · have hl : litP s.data.toList = (⟨0, true, 0, ByteArray.empty, false⟩, 0) := by rw [h]; rfl
    rw [h] at e1 e2 e3
    rw [decide_eq_true rfl] at e1
    have hg : RLitPost w (litP s.data.toList) (.returned (.tuple #[.agg #[.int .i64 0, .bool true, .int .i64 0, .string ⟨#[]⟩, .bool false], .int .i64 0])) (w.alloc (.cells #[.int .i64 0, .bool true, .int .i64 0, .string ⟨#[]⟩, .bool false] 54)) := by
      rw [hl]; exact ⟨rfl, hB _⟩
    generalize RLitPost w (litP s.data.toList) = post at *
    clear e2 e3
    replace hg := Lib.hid hg
    replace h := Lib.hid h
    replace hl := Lib.hid hl
    go_enter Tryz.func28, Tryz.ntmps28
    go_wp2_with fail
    exact bodyPost_ret (v := .tuple #[.agg #[.int .i64 0, .bool true, .int .i64 0, .string ⟨#[]⟩, .bool false], .int .i64 0]) (by simp [results, Tryz.results28, go_sem]) rfl hg.out
  · have hl : litP s.data.toList = (⟨3, false, 0, ByteArray.empty, true⟩, 0) := by rw [h]; rfl
    rw [h] at e1 e2 e3
    rw [decide_eq_false (by decide)] at e1
    rw [decide_eq_true rfl] at e2
    rw [decide_eq_false (by decide)] at e3
    have hg : RLitPost w (litP s.data.toList) (.returned (.tuple #[.agg #[.int .i64 3, .bool false, .int .i64 0, .string ⟨#[]⟩, .bool true], .int .i64 0])) (w.alloc (.cells #[.int .i64 3, .bool false, .int .i64 0, .string ⟨#[]⟩, .bool true] 54)) := by
      rw [hl]; exact ⟨rfl, hB _⟩
    generalize RLitPost w (litP s.data.toList) = post at *
    replace hg := Lib.hid hg
    replace h := Lib.hid h
    replace hl := Lib.hid hl
    go_enter Tryz.func28, Tryz.ntmps28
    go_wp2_with fail
    exact bodyPost_ret (v := .tuple #[.agg #[.int .i64 3, .bool false, .int .i64 0, .string ⟨#[]⟩, .bool true], .int .i64 0]) (by simp [results, Tryz.results28, go_sem]) rfl hg.out
  · have hl : litP s.data.toList = (⟨3, false, 0, ByteArray.empty, false⟩, 0) := by rw [h]; rfl
    rw [h] at e1 e2 e3
    rw [decide_eq_false (by decide)] at e1
    rw [decide_eq_false (by decide)] at e2
    rw [decide_eq_true rfl] at e3
    have hg : RLitPost w (litP s.data.toList) (.returned (.tuple #[.agg #[.int .i64 3, .bool false, .int .i64 0, .string ⟨#[]⟩, .bool false], .int .i64 0])) (w.alloc (.cells #[.int .i64 3, .bool false, .int .i64 0, .string ⟨#[]⟩, .bool false] 54)) := by
      rw [hl]; exact ⟨rfl, hB _⟩
    generalize RLitPost w (litP s.data.toList) = post at *
    replace hg := Lib.hid hg
    replace h := Lib.hid h
    replace hl := Lib.hid hl
    go_enter Tryz.func28, Tryz.ntmps28
    go_wp2_with fail
    exact bodyPost_ret (v := .tuple #[.agg #[.int .i64 3, .bool false, .int .i64 0, .string ⟨#[]⟩, .bool false], .int .i64 0]) (by simp [results, Tryz.results28, go_sem]) rfl hg.out
set_option maxHeartbeats 8000000 in
set_option maxRecDepth 100000 in
theorem rlit_quoted (s : ByteArray) (hs : s.size ≤ 1000000) (w : World) (h1 : s.data.toList ≠ nullL) (h2 : s.data.toList ≠ trueL) (h3 : s.data.toList ≠ falseL) (hq : isQ s.data.toList = true) :
    Calls Tryz.prog 28 #[.string s] w (RLitPost w (quotP (midL s))) := by
  have e1 : (s.toList == [110, 117, 108, 108]) = false := by rw [beqL]; exact decide_eq_false h1
  have e2 : (s.toList == [116, 114, 117, 101]) = false := by rw [beqL]; exact decide_eq_false h2
  have e3 : (s.toList == [102, 97, 108, 115, 101]) = false := by rw [beqL]; exact decide_eq_false h3
  have hB : ∀ c : Array Value, Below w.heap.size w (w.alloc (.cells c 54)) := fun c => (Below.refl _ _).alloc (Nat.le_refl _) _
  have hsl : s.data.toList.length = s.size := by simp
  unfold isQ at hq
  simp only [Bool.and_eq_true, decide_eq_true_eq, beq_iff_eq, hsl] at hq
  obtain ⟨⟨g1, g2⟩, g3⟩ := hq
  have hx0 : ∀ h : 0 < s.size, (s[0]'h).toNat = 39 := fun h => by rw [btS_get s 0 h]; unfold btS; rw [g2]; rfl
  have hxl : ∀ h : s.size - 1 < s.size, (s[s.size - 1]'h).toNat = 39 := fun h => by rw [btS_get s _ h]; unfold btS; rw [g3]; rfl
  have hml := midL_len s
  have hmg := midL_get s
  obtain ⟨q, hqe⟩ : ∃ q, q = midL s := ⟨_, rfl⟩
  rw [← hqe] at hml hmg
  rw [← hqe]
  have hg : ∀ (x : RV × Nat) (v : Value), quotP q = x → x.1.rval = v → ∀ c, RLitPost w (quotP q) (.returned (.tuple #[v, .int .i64 (x.2 : Int)])) (w.alloc (.cells c 54)) := by
    rintro x v hx rfl c
    rw [hx]
    exact ⟨rfl, hB _⟩
  have hdef : quotP q = match unq q with
    | none => (badV, 11)
    | some t => if validD t = false then (badV, 11) else if 200 < t.length then (badV, 9) else (⟨2, false, 0, ⟨t.toArray⟩, false⟩, 0) := rfl
  generalize quotP q = res at *
  generalize RLitPost w res = post at *
  have hs1 : (s.size : Int) ≤ 1000000 := by omega
  have g1I : (s.size : Int) > 1 := by omega
  replace hg := Lib.hid hg
  replace hdef := Lib.hid hdef
  replace hB := Lib.hid hB
  replace hqe := Lib.hid hqe
  replace hmg := Lib.hid hmg
  clear h1 h2 h3 g2 g3 hsl
  go_enter Tryz.func28, Tryz.ntmps28
  go_upto_region 9 with fail
  go_wp2_with fail
  go_loop [4, 5] (fun t i => ∃ (j : Nat) (acc : List UInt8), 1 ≤ j ∧ j ≤ s.size - 1 ∧ UnqR q (j - 1) acc ∧ i = .int .i64 j ∧ t = .string (ba acc)) (fun _ i => s.size - (RowKit.intOf i).toNat)
  case atStart => exact ⟨1, [], by omega, by omega, UnqR.zero q, rfl, rfl⟩
  case round =>
    obtain ⟨j, acc, hj1, hj2, hU, rfl, rfl⟩ := hrel
    have hal := hU.2.1
    have hasz : (ba acc).size ≤ 1000000 := by rw [ba, mk_size]; omega
    by_cases hlt : j < s.size - 1
    · have hlI : (j : Int) < (s.size : Int) - 1 := by omega
      obtain ⟨c, hc⟩ : ∃ c, s.data.toList.getD j 0 = c := ⟨_, rfl⟩
      have hqc : q.getD (j - 1) 0 = c := by
        rw [hmg.out (j - 1) (by omega), ← hc]
        congr 1
        omega
      have hg0 : ∀ h : j < s.size, (s[j]'h).toNat = c.toNat := fun h => by rw [btS_get s j h]; unfold btS; rw [hc]
      have h39 := eq39 c
      by_cases hcq : c = 39
      · rw [decide_eq_true hcq] at h39
        rw [hcq] at hqc
        by_cases hend : j + 1 = s.size - 1
        · have hb1 : ((j : Int) + 1 == (s.size : Int) - 1) = true := by simp; omega
          have hnone := hU.last (by omega) hqc
          have hf := hg.out (badV, 11) (.agg #[.int .i64 0, .bool false, .int .i64 0, .string ⟨#[]⟩, .bool false]) (by rw [hdef.out, hnone]) rfl #[.int .i64 0, .bool false, .int .i64 0, .string ⟨#[]⟩, .bool false]
          replace hf := Lib.hid hf
          replace hU := Lib.hid hU
          replace hqc := Lib.hid hqc
          replace hnone := Lib.hid hnone
          replace hc := Lib.hid hc
          replace hcq := Lib.hid hcq
          go_wp2_with fail
          exact bodyPost_ret (v := .tuple #[.agg #[.int .i64 0, .bool false, .int .i64 0, .string ⟨#[]⟩, .bool false], .int .i64 11]) (by simp [results, Tryz.results28, go_sem]) rfl hf.out
        · have hb1 : ((j : Int) + 1 == (s.size : Int) - 1) = false := by simp; omega
          obtain ⟨d, hd⟩ : ∃ d, s.data.toList.getD (j + 1) 0 = d := ⟨_, rfl⟩
          have hqd : q.getD (j - 1 + 1) 0 = d := by
            rw [hmg.out (j - 1 + 1) (by omega), ← hd]
            congr 1
            omega
          have hg1 : ∀ h : j + 1 < s.size, (s[j + 1]'h).toNat = d.toNat := fun h => by rw [btS_get s (j + 1) h]; unfold btS; rw [hd]
          have h39d := eq39 d
          by_cases hdq : d = 39
          · rw [decide_eq_true hdq] at h39d
            rw [hdq] at hqd
            have hU2 := hU.two (by omega) hqc hqd
            have hp := piece1 s (j + 1) (by omega) d hd
            have hsl2 : ∀ wx, (Instr.slice 9 (.string s) (some (.int .i64 ((j : Int) + 1))) (some (.int .i64 ((j : Int) + 1 + 1))) none).run Tryz.prog wx = .ok (.string (ba [d])) wx := by
              intro wx
              rw [← hp]
              have h5 := run_slice_string (P := Tryz.prog) wx 9 s .i64 .i64 ((j + 1 : Nat) : Int) ((j + 1 + 1 : Nat) : Int) Tryz.underlying9 (by omega) (by omega) (by omega)
              exact h5
            have z1 : ¬ 9223372036854775807 < (ba acc).size + (ba [d]).size := by
              have : (ba [d]).size = 1 := by rw [ba, mk_size]; rfl
              omega
            have hcat : ba acc ++ ba [d] = ba (acc ++ [39]) := by rw [ba_app, hdq]
            clear hp hU
            replace hU2 := Lib.hid hU2
            replace hcat := Lib.hid hcat
            replace hqc := Lib.hid hqc
            replace hqd := Lib.hid hqd
            replace hc := Lib.hid hc
            replace hd := Lib.hid hd
            replace hcq := Lib.hid hcq
            replace hdq := Lib.hid hdq
            go_wp2_with fail
            go_round
            case rel => exact ⟨j + 1 + 1, acc ++ [39], by omega, by omega, by have h := hU2.out; rw [show j + 1 + 1 - 1 = j - 1 + 1 + 1 by omega]; exact h, by go_num, by rw [hcat.out]⟩
            case measure => simp [RowKit.intOf]; omega
          · rw [decide_eq_false hdq] at h39d
            have hnone := hU.bad (by omega) hqc hqd hdq
            have hf := hg.out (badV, 11) (.agg #[.int .i64 0, .bool false, .int .i64 0, .string ⟨#[]⟩, .bool false]) (by rw [hdef.out, hnone]) rfl #[.int .i64 0, .bool false, .int .i64 0, .string ⟨#[]⟩, .bool false]
            replace hf := Lib.hid hf
            replace hU := Lib.hid hU
            replace hqc := Lib.hid hqc
            replace hqd := Lib.hid hqd
            replace hnone := Lib.hid hnone
            replace hc := Lib.hid hc
            replace hd := Lib.hid hd
            replace hcq := Lib.hid hcq
            replace hdq := Lib.hid hdq
            go_wp2_with fail
            exact bodyPost_ret (v := .tuple #[.agg #[.int .i64 0, .bool false, .int .i64 0, .string ⟨#[]⟩, .bool false], .int .i64 11]) (by simp [results, Tryz.results28, go_sem]) rfl hf.out
      · rw [decide_eq_false hcq] at h39
        have hU2 := hU.one (by omega) hqc hcq
        have hp := piece1 s j (by omega) c hc
        have hsl2 : ∀ wx, (Instr.slice 9 (.string s) (some (.int .i64 (j : Int))) (some (.int .i64 ((j : Int) + 1))) none).run Tryz.prog wx = .ok (.string (ba [c])) wx := by
          intro wx
          rw [← hp]
          have h5 := run_slice_string (P := Tryz.prog) wx 9 s .i64 .i64 (j : Int) ((j + 1 : Nat) : Int) Tryz.underlying9 (by omega) (by omega) (by omega)
          simpa using h5
        have z1 : ¬ 9223372036854775807 < (ba acc).size + (ba [c]).size := by
          have : (ba [c]).size = 1 := by rw [ba, mk_size]; rfl
          omega
        have hcat : ba acc ++ ba [c] = ba (acc ++ [c]) := by rw [ba_app]
        clear hp hU
        replace hU2 := Lib.hid hU2
        replace hcat := Lib.hid hcat
        replace hqc := Lib.hid hqc
        replace hc := Lib.hid hc
        replace hcq := Lib.hid hcq
        go_wp2_with fail
        go_round
        case rel => exact ⟨j + 1, acc ++ [c], by omega, by omega, by have h := hU2.out; rw [show j + 1 - 1 = j - 1 + 1 by omega]; exact h, by go_num, by rw [hcat.out]⟩
        case measure => simp [RowKit.intOf]; omega
    · have hje : j - 1 = q.length := by omega
      have hnI : ¬ (j : Int) < (s.size : Int) - 1 := by omega
      rw [hje] at hU
      have hsome := hU.done
      have hd2 := hdef.out
      rw [hsome] at hd2
      have hut := utf8_any (ba acc) (by omega) (w.alloc (.cells #[.int .i64 0, .bool false, .int .i64 0, .string ⟨#[]⟩, .bool false] 54))
      rw [ba_data] at hut
      have hzl : (ba acc).size = acc.length := by rw [ba, mk_size]
      simp only at hd2
      obtain ⟨vd, hvd⟩ : ∃ v, v = validD acc := ⟨_, rfl⟩
      rw [← hvd] at hut hd2
      replace hut := Lib.hid hut
      replace hU := Lib.hid hU
      replace hsome := Lib.hid hsome
      replace hvd := Lib.hid hvd
      cases vd with
      | false =>
        rw [if_pos rfl] at hd2
        have hf := hg.out (badV, 11) (.agg #[.int .i64 0, .bool false, .int .i64 0, .string ⟨#[]⟩, .bool false]) hd2 rfl #[.int .i64 0, .bool false, .int .i64 0, .string ⟨#[]⟩, .bool false]
        replace hf := Lib.hid hf
        replace hd2 := Lib.hid hd2
        go_wp2_with fail
        refine hut.out.mono ?_
        rintro e w1 ⟨rfl, rfl⟩
        go_wp2_with fail
        exact bodyPost_ret (v := .tuple #[.agg #[.int .i64 0, .bool false, .int .i64 0, .string ⟨#[]⟩, .bool false], .int .i64 11]) (by simp [results, Tryz.results28, go_sem]) rfl hf.out
      | true =>
        rw [if_neg (by simp)] at hd2
        by_cases hl2 : 200 < acc.length
        · rw [if_pos hl2] at hd2
          have hl3 : ((ba acc).size : Int) > 200 := by omega
          have hf := hg.out (badV, 9) (.agg #[.int .i64 0, .bool false, .int .i64 0, .string ⟨#[]⟩, .bool false]) hd2 rfl #[.int .i64 0, .bool false, .int .i64 0, .string ⟨#[]⟩, .bool false]
          replace hf := Lib.hid hf
          replace hd2 := Lib.hid hd2
          go_wp2_with fail
          refine hut.out.mono ?_
          rintro e w1 ⟨rfl, rfl⟩
          go_wp2_with fail
          exact bodyPost_ret (v := .tuple #[.agg #[.int .i64 0, .bool false, .int .i64 0, .string ⟨#[]⟩, .bool false], .int .i64 9]) (by simp [results, Tryz.results28, go_sem]) rfl hf.out
        · rw [if_neg hl2] at hd2
          have hl3 : ¬ ((ba acc).size : Int) > 200 := by omega
          have hf := hg.out (⟨2, false, 0, ba acc, false⟩, 0) (.agg #[.int .i64 2, .bool false, .int .i64 0, .string (ba acc), .bool false]) hd2 rfl #[.int .i64 2, .bool false, .int .i64 0, .string (ba acc), .bool false]
          replace hf := Lib.hid hf
          replace hd2 := Lib.hid hd2
          go_wp2_with fail
          refine hut.out.mono ?_
          rintro e w1 ⟨rfl, rfl⟩
          go_wp2_with fail
          exact bodyPost_ret (v := .tuple #[.agg #[.int .i64 2, .bool false, .int .i64 0, .string (ba acc), .bool false], .int .i64 0]) (by simp [results, Tryz.results28, go_sem]) rfl hf.out
end Go.Proofs.YtpjbcadelmjmfaaGreatDoor
