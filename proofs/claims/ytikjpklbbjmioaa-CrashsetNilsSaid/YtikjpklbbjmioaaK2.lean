/- crashset: total and Count. -/
import Derived.Test.YtikjpklbbjmioaaK1
import Derived.Test.YtikjpklbbjmioaaMul
namespace Go.Proofs.Ytikjpklbbjmioaa
open Go.RowKit Go.Maps
variable {w : World} {F : Own} {o T : Nat} {R : Dv} {L : Lay}

def baseL (R : Dv) (l : Nat) : Nat := (R.line l).hist.length + 1
def prodL (R : Dv) (ds : List Nat) : Nat := ds.foldl (fun t l => t * baseL R l) 1
theorem prodL_snoc (R : Dv) (ds : List Nat) (l : Nat) : prodL R (ds ++ [l]) = prodL R ds * baseL R l := by unfold prodL; rw [List.foldl_append]; rfl
theorem prodL_take (R : Dv) (ds : List Nat) (k : Nat) (h : k < ds.length) : prodL R (ds.take (k + 1)) = prodL R (ds.take k) * baseL R (ds.getD k 0) := by
  rw [take_getD ds k 0 h, prodL_snoc]
theorem prodL_pos (R : Dv) (ds : List Nat) : 1 ≤ prodL R ds := by
  unfold prodL
  suffices h : ∀ t, 1 ≤ t → 1 ≤ ds.foldl (fun t l => t * baseL R l) t from h 1 (Nat.le_refl _)
  induction ds with
  | nil => intro t h; exact h
  | cons l ds ih => intro t h; exact ih _ (Nat.mul_pos h (Nat.succ_pos _))
theorem prodL_mono (R : Dv) (ds : List Nat) (k : Nat) : prodL R (ds.take k) ≤ prodL R ds := by
  have h := List.take_append_drop k ds
  have h2 : prodL R ds = (ds.drop k).foldl (fun t l => t * baseL R l) (prodL R (ds.take k)) := by
    conv => lhs; rw [← h]
    unfold prodL; rw [List.foldl_append]
  rw [h2]
  generalize prodL R (ds.take k) = t
  clear h2 h
  revert t
  induction ds.drop k with
  | nil => intro t; exact Nat.le_refl _
  | cons l r ih => intro t; exact Nat.le_trans (Nat.le_mul_of_pos_right _ (Nat.succ_pos _)) (ih _)
def totV (R : Dv) : Nat × Bool := if prodL R (dirtyL R) < 18446744073709551616 then (prodL R (dirtyL R), true) else (0, false)
def cntV (R : Dv) : Nat × Bool := if prodL R (dirtyL R) ≤ 4611686018427387904 then (prodL R (dirtyL R), true) else (4611686018427387904, false)
def TotPost (w : World) (v : Nat × Bool) (e : Ending) (w' : World) : Prop := e = .returned (.tuple #[.int .u64 ((v.1 : Nat) : Int), .bool v.2]) ∧ Below w.heap.size w w'
set_option maxHeartbeats 2000000 in
set_option maxRecDepth 100000 in
theorem total_any (hok : R.Ok T) {pv lv hv : Value} (hs : SetSt w R pv lv hv) : Calls Try.prog 54 #[.agg #[pv, lv, hv]] w (TotPost w (totV R)) := by
  generalize hpost : TotPost w (totV R) = post
  have ht := hok.t
  have hn2 := hok.n2
  have hdl : (dirtyL R).length ≤ R.lines.length := dirtyTo_len R R.lines.length
  have hdm : ∀ k, k < (dirtyL R).length → (dirtyL R)[k]? = some ((dirtyL R).getD k 0) ∧ baseL R ((dirtyL R).getD k 0) ≤ 100001 := fun k hk => by
    have h1 := get_of_lt 0 hk
    have h2 := (hok.ln _ (dirtyTo_mem (List.mem_of_getElem? h1)).1).hl
    refine ⟨h1, ?_⟩
    unfold baseL; omega
  have hpm := prodL_mono R (dirtyL R)
  have hpt := prodL_take R (dirtyL R)
  have hpp := prodL_pos R
  have hfin : ∀ w', Below w.heap.size w w' → (prodL R (dirtyL R) < 18446744073709551616 → post (.returned (.tuple #[.int .u64 ((prodL R (dirtyL R) : Nat) : Int), .bool true])) w') ∧ (18446744073709551616 ≤ prodL R (dirtyL R) → post (.returned (.tuple #[.int .u64 0, .bool false])) w') := fun w' h => by
    rw [← hpost]
    refine ⟨fun h1 => ?_, fun h1 => ?_⟩
    · unfold totV; rw [if_pos h1]; exact ⟨rfl, h⟩
    · unfold totV; rw [if_neg (by omega)]; exact ⟨rfl, h⟩
  clear hpost
  obtain ⟨⟨pb, rfl, hp⟩, ⟨la, lc, rfl, hl⟩, ⟨ha, hc, vs, rfl, hH, hr⟩⟩ := hs
  have hB0 : Below w.heap.size w (w.alloc (.cells #[.slice (some ⟨pb, 0, none⟩) (bytesL R.perW).length (bytesL R.perW).length, .slice la (dirtyL R).length lc, .slice ha (dirtyL R).length hc] 102)) := (Below.refl _ _).alloc (Nat.le_refl _) _
  have hr0 := hr.kept hB0
  have hfin0 := hfin _ hB0
  have hHg := hH.2
  generalize dirtyL R = ds at *
  generalize (bytesL R.perW).length = np at *
  replace hfin0 := Lib.hid hfin0
  replace hpm := Lib.hid hpm
  replace hpt := Lib.hid hpt
  replace hpp := Lib.hid hpp
  replace hdm := Lib.hid hdm
  replace hr0 := Lib.hid hr0
  replace hHg := Lib.hid hHg
  clear hp hl hH hr hfin hok hB0
  go_enter Try.func54, Try.ntmps54
  go_wp2_with fail
  go_loopw [4, 12] (fun tv iv wr => ∃ k : Nat, k ≤ ds.length ∧ iv = .int .i64 (k : Int) ∧ tv = .int .u64 ((prodL R (ds.take k) : Nat) : Int) ∧ prodL R (ds.take k) < 18446744073709551616 ∧ wr = w.alloc (.cells #[.slice (some ⟨pb, 0, none⟩) np np, .slice la ds.length lc, .slice ha ds.length hc] 102)) (fun _ iv _ => ds.length - (intOf iv).toNat)
  case atStart => exact ⟨0, Nat.zero_le _, rfl, rfl, by rw [List.take_zero]; show 1 < 18446744073709551616; omega, rfl⟩
  case round =>
    obtain ⟨k, hk, rfl, rfl, hlt64, hwr⟩ := hrel
    replace hwr := hwr.symm
    by_cases hlt : k < ds.length
    · have hkI : decide ((k : Int) < (ds.length : Int)) = true := decide_eq_true (by omega)
      have hkN : decide (k < ds.length) = true := decide_eq_true hlt
      have hk0 : (0 : Int) ≤ (k : Int) := by omega
      have hkl : (k : Int) < (ds.length : Int) := by omega
      obtain ⟨hdk, hdb⟩ := hdm.out k hlt
      obtain ⟨xa, xc, hx, _⟩ := hHg.out k _ hdk
      obtain ⟨bl, ol, cl, ea, fa⟩ := hr0.out.cells (by omega)
      simp only [Value.slice.injEq, true_and] at ea
      obtain ⟨rfl, ea2⟩ := ea
      replace ea2 := Lib.hid ea2
      have ck := fa _ _ hx
      rw [hwr] at ck
      have hpk := hpt.out k hlt
      have hmn := hpm.out (k + 1)
      have hB : baseL R (ds.getD k 0) = (R.line (ds.getD k 0)).hist.length + 1 := rfl
      generalize ds.getD k 0 = d at *
      obtain ⟨b, hb⟩ : ∃ b, b = baseL R d := ⟨_, rfl⟩
      rw [← hb] at hpk hB hdb
      generalize (R.line d).hist.length = hlen at *
      generalize hP : prodL R (ds.take k) = P at *
      have hmul : Calls Try.prog 60 #[.int .u64 (P : Int), .int .u64 ((hlen : Int) + 1)] wr fun e w' => e = .returned (.tuple #[.int .u64 ((P * b / 18446744073709551616 : Nat) : Int), .int .u64 ((P * b % 18446744073709551616 : Nat) : Int)]) ∧ w' = wr := by
        have := Try.bits_Mul64 P b hlt64 (by omega) wr
        rw [show ((b : Nat) : Int) = (hlen : Int) + 1 by omega] at this
        exact this
      have hhb : hlen ≤ 100000 := by omega
      have hcase : (P * b < 18446744073709551616 ∧ P * b / 18446744073709551616 = 0 ∧ P * b % 18446744073709551616 = P * b) ∨ (18446744073709551616 ≤ P * b ∧ 0 < P * b / 18446744073709551616) := by
        generalize P * b = X
        omega
      obtain ⟨hi, hhi⟩ : ∃ hi, hi = P * b / 18446744073709551616 := ⟨_, rfl⟩
      obtain ⟨lo, hlo⟩ : ∃ lo, lo = P * b % 18446744073709551616 := ⟨_, rfl⟩
      rw [← hhi, ← hlo] at hmul hcase
      replace hhi := Lib.hid hhi
      replace hlo := Lib.hid hlo
      replace hB := Lib.hid hB
      replace hlt64 := Lib.hid hlt64
      replace hmul := Lib.hid hmul
      replace hpk := Lib.hid hpk
      replace hmn := Lib.hid hmn
      replace hb := Lib.hid hb
      replace hdk := Lib.hid hdk
      clear fa hx
      rcases hcase with ⟨h1, h2, h3⟩ | ⟨h1, h2⟩
      · have g1 : ((hi : Int) == 0) = true := beq_iff_eq.2 (by omega)
        have g2 : decide ((hi : Int) = 0) = true := decide_eq_true (by omega)
        have hnew : prodL R (ds.take (k + 1)) = lo := by rw [hpk.out, h3]
        have hlo2 : lo < 18446744073709551616 := by omega
        replace hnew := Lib.hid hnew
        replace h1 := Lib.hid h1
        replace h3 := Lib.hid h3
        subst h2
        go_wp2_with (refine hmul.out.mono ?_; rintro e w' ⟨rfl, rfl⟩)
        refine ⟨⟨k + 1, by omega, by go_num, by rw [hnew.out], by rw [hnew.out]; exact hlo2, hwr.symm⟩, by simp [intOf]; omega⟩
      · have g1 : ((hi : Int) == 0) = false := beq_eq_false_iff_ne.2 (by omega)
        have hx := Lib.hid (hfin0.out.2 (by have := hmn.out; rw [hpk.out] at this; omega))
        rw [hwr] at hx
        replace h1 := Lib.hid h1
        have h2' : ¬ ((hi : Int) = 0) := by omega
        go_wp2_with (refine hmul.out.mono ?_; rintro e w' ⟨rfl, rfl⟩)
        first | exact hx.out | (go_ret; exact hx.out)
    · obtain rfl : k = ds.length := by omega
      have hkI : decide ((ds.length : Int) < (ds.length : Int)) = false := decide_eq_false (by omega)
      have hkN : decide (ds.length < ds.length) = false := decide_eq_false (by omega)
      rw [List.take_length] at hlt64 ⊢
      have hx := Lib.hid (hfin0.out.1 hlt64)
      rw [hwr] at hx
      go_wp2_with fail
      exact hx.out
set_option maxHeartbeats 1000000 in
theorem ccount_any (h : DevSt w F o L T R) : Calls Try.prog 21 #[.pointer (some ⟨L.g, 0, none⟩)] w (TotPost w (cntV R)) := by
  generalize hpost : TotPost w (cntV R) = post
  have hex := Lib.hid (examine_any h)
  have htot := Lib.hid (fun (wx : World) (pv lv hv : Value) (hs : SetSt wx R pv lv hv) => total_any h.ok hs)
  have hpp := prodL_pos R (dirtyL R)
  have hfin : ∀ w', Below w.heap.size w w' → post (.returned (.tuple #[.int .u64 (((cntV R).1 : Nat) : Int), .bool (cntV R).2])) w' := fun w' hb => by rw [← hpost]; exact ⟨rfl, hb⟩
  replace hfin := Lib.hid hfin
  clear h hpost
  go_enter Try.func21, Try.ntmps21
  go_wp2_with fail
  refine hex.out.mono ?_
  rintro e w1 ⟨pv, lv, hv, rfl, hs, hB⟩
  have ht := htot.out w1 pv lv hv hs
  unfold totV at ht
  have hf := hfin.out
  unfold cntV at hf
  generalize hP : prodL R (dirtyL R) = P at *
  by_cases h1 : P < 18446744073709551616
  · rw [if_pos h1] at ht
    replace ht := Lib.hid ht
    by_cases h2 : P ≤ 4611686018427387904
    · rw [if_pos h2] at hf
      replace hf := Lib.hid hf
      have g1 : decide ((4611686018427387904 : Int) < (P : Int)) = false := decide_eq_false (by omega)
      have g2 : decide (4611686018427387904 < P) = false := decide_eq_false (by omega)
      go_wp2_with (refine ht.out.mono ?_; rintro e w2 ⟨rfl, hB2⟩)
      first | exact hf.out _ (hB.trans (hB2.mono hB.size)) | (go_ret2; exact hf.out _ (hB.trans (hB2.mono hB.size)))
    · rw [if_neg h2] at hf
      replace hf := Lib.hid hf
      have g1 : decide ((4611686018427387904 : Int) < (P : Int)) = true := decide_eq_true (by omega)
      have g2 : decide (4611686018427387904 < P) = true := decide_eq_true (by omega)
      go_wp2_with (refine ht.out.mono ?_; rintro e w2 ⟨rfl, hB2⟩)
      first | exact hf.out _ (hB.trans (hB2.mono hB.size)) | (go_ret2; exact hf.out _ (hB.trans (hB2.mono hB.size)))
  · rw [if_neg h1] at ht
    rw [if_neg (by omega)] at hf
    replace ht := Lib.hid ht
    replace hf := Lib.hid hf
    go_wp2_with (refine ht.out.mono ?_; rintro e w2 ⟨rfl, hB2⟩)
    first | exact hf.out _ (hB.trans (hB2.mono hB.size)) | (go_ret2; exact hf.out _ (hB.trans (hB2.mono hB.size)))
end Go.Proofs.Ytikjpklbbjmioaa
