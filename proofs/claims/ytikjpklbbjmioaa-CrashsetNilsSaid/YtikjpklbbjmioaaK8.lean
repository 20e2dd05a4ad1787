/- The reference's Count. -/
import Derived.Test.YtikjpklbbjmioaaK7
namespace Go.Proofs.Ytikjpklbbjmioaa
open Go.RowKit Go.Maps
variable {w : World} {F : Own} {o h T : Nat} {R : Dv}
theorem gt_div (n b t : Nat) (hb : 0 < b) : t / b < n ↔ t < n * b := by
  rw [Nat.div_lt_iff_lt_mul hb]
set_option maxHeartbeats 2000000 in
set_option maxRecDepth 100000 in
theorem rcount_any (hr : RefSt w F o h T R) : Calls Try.prog 20 #[.pointer (some ⟨h, 0, none⟩)] w (TotPost w (cntV R)) := by
  generalize hpost : TotPost w (cntV R) = post
  have hn2 := hr.ok.n2
  have ht := hr.ok.t
  have hbs := rbases_any hr
  have hdl : (dirtyL R).length ≤ R.lines.length := dirtyTo_len R R.lines.length
  have hdm : ∀ k, k < (dirtyL R).length → (basesL R (dirtyL R))[k]? = some (baseL R ((dirtyL R).getD k 0)) ∧ baseL R ((dirtyL R).getD k 0) ≤ 100001 ∧ 1 ≤ baseL R ((dirtyL R).getD k 0) := fun k hk => by
    have h1 := get_of_lt 0 hk
    have h2 := (dirtyTo_mem (List.mem_of_getElem? h1)).1
    have h3 := (hr.ok.ln _ h2).hl
    refine ⟨by unfold basesL; rw [List.getElem?_map, h1]; rfl, ?_, ?_⟩ <;> unfold baseL <;> omega
  have hpm := prodL_mono R (dirtyL R)
  have hpt := prodL_take R (dirtyL R)
  have hpp := prodL_pos R
  have hbl : (basesL R (dirtyL R)).length = (dirtyL R).length := by unfold basesL; rw [List.length_map]
  have hfin : ∀ w', Below w.heap.size w w' → (prodL R (dirtyL R) ≤ 4611686018427387904 → post (.returned (.tuple #[.int .u64 ((prodL R (dirtyL R) : Nat) : Int), .bool true])) w') ∧ (4611686018427387904 < prodL R (dirtyL R) → post (.returned (.tuple #[.int .u64 4611686018427387904, .bool false])) w') := fun w' h => by
    rw [← hpost]
    refine ⟨fun h1 => ?_, fun h1 => ?_⟩
    · unfold cntV; rw [if_pos h1]; exact ⟨rfl, h⟩
    · unfold cntV; rw [if_neg (by omega)]; exact ⟨rfl, h⟩
  clear hpost hr
  unfold NewU64 at hbs
  rw [hbl] at hbs
  generalize basesL R (dirtyL R) = bs at *
  generalize dirtyL R = ds at *
  replace hfin := Lib.hid hfin
  replace hpm := Lib.hid hpm
  replace hpt := Lib.hid hpt
  replace hpp := Lib.hid hpp
  replace hdm := Lib.hid hdm
  replace hbs := Lib.hid hbs
  go_enter Try.func20, Try.ntmps20
  go_wp2_with (refine hbs.out.mono ?_; rintro e w2 ⟨ba, bc, rfl, hG⟩; have hl2 := Rd.of_own hG.own; have B2 := hG.b; replace B2 := Lib.hid B2; replace hl2 := Lib.hid hl2; clear hG)
  go_loopw [4, 6, 10] (fun v _ i wr => ∃ k : Nat, k ≤ ds.length ∧ i = .int .i64 (k : Int) ∧ v = .int .u64 ((prodL R (ds.take k) : Nat) : Int) ∧ prodL R (ds.take k) ≤ 4611686018427387904 ∧ wr = w2) (fun _ _ i _ => ds.length - (intOf i).toNat)
  case atStart => exact ⟨0, Nat.zero_le _, rfl, rfl, by rw [List.take_zero]; show 1 ≤ 4611686018427387904; omega, rfl⟩
  case round =>
    obtain ⟨k, hk, rfl, rfl, hle, hwr⟩ := hrel
    replace hwr := hwr.symm
    subst hwr
    by_cases hlt : k < ds.length
    · have hkI : decide ((k : Int) < (ds.length : Int)) = true := decide_eq_true (by omega)
      have hkN : decide (k < ds.length) = true := decide_eq_true hlt
      have hk0 : (0 : Int) ≤ (k : Int) := by omega
      have hkl : (k : Int) < (ds.length : Int) := by omega
      obtain ⟨hat, hb1, hb2⟩ := hdm.out k hlt
      obtain ⟨bl, ol, cl, ea, fa⟩ := hl2.out.cells (by omega)
      simp only [Value.slice.injEq, true_and] at ea
      obtain ⟨rfl, ea2⟩ := ea
      replace ea2 := Lib.hid ea2
      have ck := fa _ _ (u64s_get _ _ _ hat)
      have hpk := hpt.out k hlt
      have hmn := hpm.out (k + 1)
      generalize baseL R (ds.getD k 0) = b at *
      generalize hP : prodL R (ds.take k) = P at *
      have hgd := gt_div P b 4611686018427387904 (by omega)
      have hqle := Nat.div_le_self 4611686018427387904 b
      obtain ⟨qq, hqq⟩ : ∃ qq, qq = 4611686018427387904 / b := ⟨_, rfl⟩
      have hcd : (4611686018427387904 : Int) / (b : Int) = (qq : Int) := by rw [hqq]; simp
      rw [← hqq] at hgd hqle
      replace hqq := Lib.hid hqq
      have hq : (4611686018427387904 : Int) / (b : Int) ≤ 4611686018427387904 ∧ 0 ≤ (4611686018427387904 : Int) / (b : Int) := by rw [hcd]; omega
      have e3 : ((b : Int) == 0) = false := beq_eq_false_iff_ne.2 (by omega)
      have e4 : ¬ ((b : Int) = 0) := by omega
      replace hP := Lib.hid hP
      replace hpk := Lib.hid hpk
      replace hmn := Lib.hid hmn
      replace hat := Lib.hid hat
      clear fa
      by_cases hc : 4611686018427387904 < P * b
      · have g1 : decide ((4611686018427387904 : Int) / (b : Int) < (P : Int)) = true := decide_eq_true (by rw [hcd]; have := hgd.2 hc; omega)
        have hx := Lib.hid ((hfin.out w2 B2.out).2 (by have := hmn.out; rw [hpk.out] at this; omega))
        replace hgd := Lib.hid hgd
        replace hcd := Lib.hid hcd
        replace hc := Lib.hid hc
        go_wp2_with fail
        first | exact hx.out | (go_ret; exact hx.out)
      · have g1 : decide ((4611686018427387904 : Int) / (b : Int) < (P : Int)) = false := decide_eq_false (by rw [hcd]; have := mt hgd.1 hc; omega)
        have hmI : ((P * b : Nat) : Int) = (P : Int) * (b : Int) := by simp
        have hmb : 0 ≤ (P : Int) * (b : Int) ∧ (P : Int) * (b : Int) ≤ 4611686018427387904 := by rw [← hmI]; exact ⟨Int.natCast_nonneg _, by omega⟩
        have hc' : P * b ≤ 4611686018427387904 := by omega
        have hrel : ∃ k' : Nat, k' ≤ ds.length ∧ Value.int .i64 ((k : Int) + 1) = .int .i64 (k' : Int) ∧ Value.int .u64 ((P : Int) * (b : Int)) = .int .u64 ((prodL R (ds.take k') : Nat) : Int) ∧ prodL R (ds.take k') ≤ 4611686018427387904 :=
          ⟨k + 1, by omega, by go_num, by rw [hpk.out, hmI], by rw [hpk.out]; exact hc'⟩
        replace hrel := Lib.hid hrel
        replace hgd := Lib.hid hgd
        replace hcd := Lib.hid hcd
        replace hc := Lib.hid hc
        replace hc' := Lib.hid hc'
        replace hmI := Lib.hid hmI
        go_wp2_with fail
        obtain ⟨k', r1, r2, r3, r4⟩ := hrel.out
        exact ⟨⟨k', r1, r2, r3, r4, by trivial⟩, by simp [intOf]; omega⟩
    · obtain rfl : k = ds.length := by omega
      have hkI : decide ((ds.length : Int) < (ds.length : Int)) = false := decide_eq_false (by omega)
      have hkN : decide (ds.length < ds.length) = false := decide_eq_false (by omega)
      rw [List.take_length] at hle ⊢
      have hx := Lib.hid ((hfin.out w2 B2.out).1 hle)
      go_wp2_with fail
      first | exact hx.out | (go_ret; exact hx.out)
end Go.Proofs.Ytikjpklbbjmioaa
