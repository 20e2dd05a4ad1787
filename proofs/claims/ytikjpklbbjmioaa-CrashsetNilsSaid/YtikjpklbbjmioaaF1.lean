/- The law's mod, sameWrites. -/
import Derived.Test.YtikjpklbbjmioaaE11
import Derived.Laws.StructEq
namespace Go.Proofs.Ytikjpklbbjmioaa
open Go.RowKit Go.Maps
variable {w : World} {F : Own} {o h T : Nat} {R : Dv}

theorem mod_any (w : World) (a : Int) (n : Nat) (h1 : 1 ≤ n) (h2 : n ≤ 1000) (ha : -9223372036854775808 ≤ a ∧ a ≤ 9223372036854775807) :
    Calls Try.prog 84 #[.int .i64 a, .int .i64 (n : Int)] w fun e w' => e = .returned (.int .i64 (a % (n : Int))) ∧ w = w' := by
  have _h := ha
  have hn0 : ¬ (n : Int) = 0 := by omega
  have hn1 : decide ((n : Int) = 0) = false := decide_eq_false hn0
  have hr1 : a.tmod (n : Int) < (n : Int) := Int.tmod_lt_of_pos _ (by omega)
  have hr2 : -(n : Int) < a.tmod (n : Int) := by
    rcases Int.le_total 0 a with h | h
    · have := Int.tmod_nonneg (n : Int) h; omega
    · have h3 : (-a).tmod (n : Int) = -(a.tmod (n : Int)) := Int.neg_tmod _ _
      have h4 : (-a).tmod (n : Int) < (n : Int) := Int.tmod_lt_of_pos _ (by omega)
      omega
  have hr3 : (a.tmod (n : Int) + (n : Int)).tmod (n : Int) = a % (n : Int) := by
    rw [Int.tmod_eq_emod_of_nonneg (by omega), Int.add_emod_right]
    have := Int.tmod_add_mul_tdiv a (n : Int)
    have e : a % (n : Int) = (a.tmod (n : Int) + (n : Int) * a.tdiv (n : Int)) % (n : Int) := by rw [this]
    rw [e, Int.add_mul_emod_self_left]
  generalize hr : a.tmod (n : Int) = r at *
  have hw : wrap64 (r + (n : Int)) = r + (n : Int) := by unfold wrap64; omega
  have hw0 : wrap64 r = r := by unfold wrap64; omega
  have hm1 : 0 ≤ a % (n : Int) := Int.emod_nonneg _ hn0
  have hm2 : a % (n : Int) < (n : Int) := Int.emod_lt_of_pos _ (by omega)
  generalize a % (n : Int) = m at *
  have hw2 : wrap64 m = m := by unfold wrap64; omega
  replace hr := Lib.hid hr
  replace hr3 := Lib.hid hr3
  replace hw := Lib.hid hw
  replace hw0 := Lib.hid hw0
  replace hw2 := Lib.hid hw2
  go_enter Try.func84, Try.ntmps84
  go_wp2_with fail
  go_ret
  exact ⟨by rw [hr.out, hw.out, hr3.out]; rfl, rfl⟩

set_option maxHeartbeats 2000000 in
set_option maxRecDepth 100000 in
theorem samew_any (w : World) (ps : List (Nat × Nat)) (va vb : Option Addr) (ca cb : Nat) (hl : ps.length ≤ 100000) (ha : Rd w (.slice va ps.length ca) ps.length (wcells ps)) (hb : Rd w (.slice vb ps.length cb) ps.length (wcells ps)) :
    Calls Try.prog 69 #[.slice va ps.length ca, .slice vb ps.length cb] w fun e w' => e = .returned (.bool true) ∧ ∃ m, w.drewN m = w' := by
  go_enter Try.func69, Try.ntmps69
  go_wp2_with fail
  go_loopw [13] (fun i wr => ∃ k : Nat, k ≤ ps.length ∧ i = .int .i64 k ∧ ∃ m, w.drewN m = wr) (fun i _ => ps.length - (intOf i).toNat)
  case atStart => exact ⟨0, Nat.zero_le _, rfl, 0, rfl⟩
  case round =>
    obtain ⟨k, hk, rfl, m, hm⟩ := hrel
    by_cases hlt : k < ps.length
    · have hkI : (k : Int) < (ps.length : Int) := by omega
      have hk0 : (0 : Int) ≤ (k : Int) := by omega
      have hA := ha.drewN m
      have hB := hb.drewN m
      rw [hm] at hA hB
      replace hm := Lib.hid hm
      have hat := get_of_lt (0, 0) hlt
      generalize ps.getD k (0, 0) = p at *
      obtain ⟨p1, p2⟩ := p
      obtain ⟨bl, ol, cl, ea, fa⟩ := hA.cells (by omega)
      simp only [Value.slice.injEq, true_and] at ea
      obtain ⟨rfl, h1⟩ := ea
      replace h1 := Lib.hid h1
      obtain ⟨bm, om, cm, eb, fb⟩ := hB.cells (by omega)
      simp only [Value.slice.injEq, true_and] at eb
      obtain ⟨rfl, h2⟩ := eb
      replace h2 := Lib.hid h2
      have c0 : wr.cell? ⟨bl, ol + k * 2, none⟩ = _ := fa _ _ (wcells_get ps k _ hat).1
      have c1 : wr.cell? ⟨bl, ol + k * 2 + 1, none⟩ = _ := fa _ _ (wcells_get ps k _ hat).2
      have c2 : wr.cell? ⟨bm, om + k * 2, none⟩ = _ := fb _ _ (wcells_get ps k _ hat).1
      have c3 : wr.cell? ⟨bm, om + k * 2 + 1, none⟩ = _ := fb _ _ (wcells_get ps k _ hat).2
      simp only at c0 c1 c2 c3
      replace hat := Lib.hid hat
      clear fa fb ha hb hA hB
      go_wp2_with fail
      go_quiet (fail)
      go_wp2_with fail
      exact ⟨⟨k + 1, by omega, by go_num, m + nq, by rw [← hm.out]; simp⟩, by simp [intOf]; omega⟩
    · obtain rfl : k = ps.length := by omega
      clear ha hb
      subst hm
      go_wp2_with fail
      go_ret
      exact ⟨rfl, m, rfl⟩
end Go.Proofs.Ytikjpklbbjmioaa
