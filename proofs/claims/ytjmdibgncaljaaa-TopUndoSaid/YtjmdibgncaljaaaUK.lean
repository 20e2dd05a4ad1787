/- Walks: the undo log's PlanCommit. -/
import Derived.Test.YtjmdibgncaljaaaUJ
namespace Go.Proofs.Ytjmdibgncaljaaa
open Go.RowKit Go.Lib Dev
variable {w : World} {F : Own} {o T : Nat} {L : Lay} {R : Dv} {lb : Nat}
theorem inCells_drop (l : List In) (k : Nat) : inCells (l.drop k) = (inCells l).drop (k * 3) := by
  rcases Nat.lt_or_ge l.length k with h | h
  · rw [List.drop_of_length_le (by omega), List.drop_of_length_le (by rw [inCells_len]; omega)]; rfl
  · have e := inCells_app (l.take k) (l.drop k)
    rw [List.take_append_drop] at e
    have h1 : (inCells (l.take k)).length = k * 3 := by rw [inCells_len, List.length_take, Nat.min_eq_left h]
    rw [e, ← h1, List.drop_left']; rfl
set_option maxRecDepth 100000 in
/-- p[k:], of a program. -/
theorem cut_from (a : Option Addr) (n c k : Nat) (hk : k < n) (hc : n ≤ c) (w : World) (l : List In) (hl : l.length = n) (hr : Rd w (.slice a n c) n (inCells l)) :
    ∃ a', (Instr.slice 79 (.slice a n c) (some (.int .i64 (k : Int))) none none).run Try.prog w = .ok (.slice a' (n - k) (c - k)) w ∧ Rd w (.slice a' (n - k) (c - k)) (n - k) (inCells (l.drop k)) := by
  obtain ⟨bl, ol, cl, ea, fa⟩ := hr.cells (by omega)
  simp only [Value.slice.injEq, true_and] at ea
  obtain ⟨rfl, _⟩ := ea
  refine ⟨some ((⟨bl, ol, none⟩ : Addr).add (k * 3)), ?_, ?_⟩
  · rw [run_slice_l (P := Try.prog) w 79 (some ⟨bl, ol, none⟩) n c Try.underlying79 .i64 (k : Int) (by omega) (by omega)]
    have : (sizeOf (Try.prog.elem 79)).run Try.prog w = .ok 3 w := by simp [go_sem]
    rw [this]
    simp only [Result.andThen, sliced, Int.toNat_natCast]
    rw [if_neg (by omega)]
    rfl
  · refine ⟨_, _, rfl, .inr ⟨bl, ol + k * 3, ?_, fun j u hj => ?_⟩⟩
    · unfold Addr.add
      split
      · simp_all
      · rfl
    · rw [inCells_drop, List.getElem?_drop] at hj
      rw [Nat.add_assoc]
      exact fa _ _ hj
theorem one_zero {fl : List Nat} (h : ∀ y, y ∈ fl ↔ y ∈ [((0 : Nat), (0 : Nat))].map fun p => p.1 / 64 * 64) (hl : fl.length ≤ 1) : fl = [0] := by
  match fl, h, hl with
  | [], h, _ => have := (h 0).2 (by simp); cases this
  | [x], h, _ => have := (h x).1 (by simp); simp at this; rw [this]
  | _ :: _ :: _, _, hl => simp at hl
theorem one_zeroN {fl : List Nat} (n : Nat) (h : ∀ y, y ∈ fl ↔ y ∈ [((0 : Nat), n)].map fun p => p.1 / 64 * 64) (hl : fl.length ≤ 1) : fl = [0] := one_zero (by simpa using h) hl
/-- The program of a commit of these entries. -/
def comL (fl : List Nat) : List In := fl.map flI ++ [feI] ++ storesI [(0, 0)] [0]
def PlcP (w : World) (S : List (Nat × Nat)) (e : Ending) (w' : World) : Prop := ∃ oa oc ps, e = .returned (.tuple #[.slice oa (List.length ps) oc, .int .i64 0]) ∧ Rd w' (.slice oa ps.length oc) ps.length (inCells ps) ∧ Below w.heap.size w w' ∧
  ((S = [] ∧ ps = [] ∧ oa = none ∧ oc = 0) ∨ (S ≠ [] ∧ ∃ fl, (∀ y, y ∈ fl ↔ y ∈ S.map fun p => p.1 / 64 * 64) ∧ fl.length ≤ S.length ∧ ps = comL fl))
set_option maxHeartbeats 8000000 in
set_option maxRecDepth 100000 in
theorem uplanc_any (h : DevSt w F o L T R) (hL : Live R) (he0 : R.errs.getD 0 0 = 0) (hl : R.lines.length = 10) (hg : LogAt w lb (L.tb 0)) (hSb : ∀ p ∈ savedV R, okOff p.1 = true) : Calls Try.prog 27 #[.pointer (some ⟨lb, 0, none⟩)] w (PlcP w (savedV R)) := by
  have hlt : ∀ p ∈ savedV R, p.1 < 18446744073709551616 := fun p hp => by have := okOff_iff.1 (hSb p hp); omega
  have hld := uload_any h hL he0 hl hg hlt
  obtain ⟨S, hS⟩ : ∃ S, savedV R = S := ⟨_, rfl⟩
  have hS8 : S.length ≤ 8 := by rw [← hS, savedV_len]; exact cntV2_le R
  rw [hS] at hld hSb hlt ⊢
  have hws : wsV S = S := by unfold wsV; rw [List.filter_eq_self]; exact hSb
  unfold LoadP at hld
  rw [hws] at hld
  have hcnt : ∀ wx, Below w.heap.size w wx → Calls Try.prog 69 #[.pointer (some ⟨lb, 0, none⟩), .int .i64 0] wx (StoP wx [(0, 0)]) := fun wx hb => usetcount_any (hg.below hb) 0 (by decide)
  replace hcnt := Lib.hid hcnt
  replace hld := Lib.hid hld
  clear h hL he0 hl hg hSb hws hS
  generalize hpost : PlcP w S = post
  by_cases hS0 : S = []
  · have hf : ∀ w', Below w.heap.size w w' → post (.returned (.tuple #[.slice none 0 0, .int .i64 0])) w' := fun w' hb => by
      rw [← hpost]
      exact ⟨none, 0, [], rfl, Rd.nil _, hb, .inl ⟨hS0, rfl, rfl, rfl⟩⟩
    replace hf := Lib.hid hf
    clear hpost hcnt hlt
    rw [hS0] at hld
    go_enter Try.func27, Try.ntmps27
    go_wp2_with fail
    refine hld.out.mono ?_
    rintro e w2 ⟨sa, sc, rfl, hB⟩
    have hf2 := Lib.hid (hf.out w2 hB.b)
    clear hB
    have hd : decide (([] : List (Nat × Nat)).length = 0) = true := rfl
    go_wp2_with fail
    first | exact hf2.out | (go_ret; exact hf2.out)
  · have hn0 : S.length ≠ 0 := fun e => hS0 (List.length_eq_zero_iff.1 e)
    obtain ⟨n, hn⟩ : ∃ n, S.length = n := ⟨_, rfl⟩
    have hfin : ∀ m (fl : List Nat) oa oc w', m = (comL fl).length → (∀ y, y ∈ fl ↔ y ∈ S.map fun p => p.1 / 64 * 64) → fl.length ≤ S.length → Rd w' (.slice oa m oc) m (inCells (comL fl)) → Below w.heap.size w w' → post (.returned (.tuple #[.slice oa m oc, .int .i64 0])) w' := fun m fl oa oc w' h1 h2 h3 h4 h5 => by
      subst h1
      rw [← hpost]
      exact ⟨oa, oc, comL fl, rfl, h4, h5, .inr ⟨hS0, fl, h2, h3, rfl⟩⟩
    replace hfin := Lib.hid hfin
    clear hpost
    have hzb : decide (n = 0) = false := decide_eq_false (by rw [← hn]; exact hn0)
    rw [hn, hzb] at hld
    rw [hn] at hS8 hn0
    go_enter Try.func27, Try.ntmps27
    go_wp2_with fail
    refine hld.out.mono ?_
    rintro e w2 ⟨sa, sc, rfl, hB⟩
    have hb2 := hB.b
    have hrd := hB.rd
    rw [← hn] at hrd
    have hst := ustores_any S (by omega) hlt sa sc w2 hrd
    rw [hn] at hst
    replace hst := Lib.hid hst
    replace hb2 := Lib.hid hb2
    clear hB hrd hld
    go_wp2_with fail
    refine hst.out.mono ?_
    rintro e w3 ⟨oa, oc, fl, rfl, hfl, hfll, hr3, hb3, hc3⟩
    have e3 : storesL S fl = storesI S fl := by unfold storesL; rw [if_neg hS0]
    rw [e3] at hr3 hc3 ⊢
    have e3l : (storesI S fl).length = n + (fl.length + 1) := by unfold storesI; simp [hn]; try omega
    obtain ⟨a', hsl, hr4⟩ := cut_from oa (storesI S fl).length oc n (by omega) hc3 w3 _ rfl hr3
    have e4 : (storesI S fl).drop n = fl.map flI ++ [feI] := by
      unfold storesI
      rw [List.append_assoc, List.drop_left']
      rw [List.length_map]; exact hn
    have e4l : (storesI S fl).length - n = (fl.map flI ++ [feI]).length := by rw [e3l]; simp; try omega
    rw [e4, e4l] at hr4
    rw [e4l] at hsl
    have hb23 := hb2.out.trans (hb3.mono hb2.out.size)
    have hcnt3 := hcnt.out w3 hb23
    obtain ⟨X, hX⟩ : ∃ X, fl.map flI ++ [feI] = X := ⟨_, rfl⟩
    obtain ⟨m3, hm3⟩ : ∃ m3, (storesI S fl).length = m3 := ⟨_, rfl⟩
    rw [hX] at hr4 hsl e4l
    rw [hm3] at hsl e3l ⊢
    have hX0 : 0 < X.length := by rw [← hX]; simp
    have hX9 : X.length ≤ 9 := by rw [← hX]; simp; omega
    obtain ⟨p, hp⟩ : ∃ p, X.length = p := ⟨_, rfl⟩
    rw [hp] at hsl hr4 hX0 hX9
    obtain ⟨c4, hc4⟩ : ∃ c4, oc - n = c4 := ⟨_, rfl⟩
    rw [hc4] at hsl hr4
    replace hfl := Lib.hid hfl
    replace hfll := Lib.hid hfll
    replace hb23 := Lib.hid hb23
    replace hr4 := Lib.hid hr4
    replace hcnt3 := Lib.hid hcnt3
    replace hX := Lib.hid hX
    replace hp := Lib.hid hp
    clear hr3 hb3 hst e3 e4 e4l e3l hc3 hm3 hcnt hc4
    go_wp2_with fail
    refine hcnt3.out.mono ?_
    rintro e w4 ⟨ob, od, fl2, rfl, h21, h22, hr5, hb5, _⟩
    obtain rfl := one_zero h21 h22
    have e5 : storesL [((0 : Nat), (0 : Nat))] [0] = storesI [(0, 0)] [0] := by unfold storesL; rw [if_neg (by simp)]
    have e5l : (storesL [((0 : Nat), (0 : Nat))] [0]).length = 3 := by rw [e5]; rfl
    rw [e5l] at hr5 ⊢
    rw [e5] at hr5
    have hr6 := hr4.out.kept hb5
    have hth := uthen_any X (storesI [(0, 0)] [0]) (by rw [hp.out]; exact hX0) (by decide) (by rw [hp.out, show (storesI [((0 : Nat), (0 : Nat))] [0]).length = 3 from rfl]; omega) a' ob c4 od w4 (by rw [hp.out]; exact hr6) hr5
    rw [hp.out, show (storesI [((0 : Nat), (0 : Nat))] [0]).length = 3 from rfl] at hth
    have hb25 := Lib.hid (hb23.out.trans (hb5.mono hb23.out.size))
    replace hth := Lib.hid hth
    clear hr5 hb5 hr6 h21 h22 e5 e5l hr4 hcnt3
    go_wp2_with fail
    refine hth.out.mono ?_
    rintro e w6 ⟨oe, of, rfl, hB6⟩
    obtain ⟨q, hq⟩ : ∃ q, (X ++ storesI [(0, 0)] [0]).length = q := ⟨_, rfl⟩
    rw [hq] at hB6 ⊢
    have hf := Lib.hid (hfin.out q fl oe of w6 (by rw [← hq, ← hX.out]; rfl) hfl.out hfll.out (by rw [show comL fl = X ++ storesI [(0, 0)] [0] from by rw [← hX.out]; rfl]; exact hB6.rd) (hb25.out.trans (hB6.b.mono hb25.out.size)))
    clear hB6 hth hq
    go_wp2_with fail
    first | exact hf.out | (go_ret; exact hf.out)
end Go.Proofs.Ytjmdibgncaljaaa
