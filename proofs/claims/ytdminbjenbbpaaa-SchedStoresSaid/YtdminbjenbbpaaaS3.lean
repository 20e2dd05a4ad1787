/- Contract of same. -/
import Derived.Test.YtdminbjenbbpaaaS1
namespace Go.Proofs.Ytdminbjenbbpaaa
open Go.RowKit

theorem same_prefix_no {xs ys : List Int} {k : Nat} (hx : k < xs.length) (h : xs.length = ys.length) (hne : xs.getD k 0 ≠ ys.getD k 0) : decide (xs = ys) = false := by
  simp only [decide_eq_false_iff_not]
  intro e; subst e; exact hne rfl

set_option maxHeartbeats 1000000 in
theorem same_any (va vb : Value) (xs ys : List Int) (w : World) (ha : Rd w va xs.length (xs.map (.int .i64))) (hb : Rd w vb ys.length (ys.map (.int .i64))) (hx : xs.length ≤ 9223372036854775807) (hy : ys.length ≤ 9223372036854775807) :
    Calls Try.prog 16 #[va, vb] w fun e w' => e = .returned (.bool (decide (xs = ys))) ∧ ∃ m, w.drewN m = w' := by
  obtain ⟨a, ca, rfl, ha⟩ := ha
  obtain ⟨b, cb, rfl, hb⟩ := hb
  by_cases hl : xs.length = ys.length
  · have hl1 : ((xs.length : Int) != (ys.length : Int)) = false := by simp [hl]
    have Hl := Lib.hid hl
    clear hl
    go_enter Try.func16, Try.ntmps16
    go_wp2_with fail
    go_loopw [13] (fun i wr => ∃ (k m : Nat), k ≤ xs.length ∧ i = .int .i64 k ∧ wr = w.drewN m ∧ Hid (xs.take k = ys.take k)) (fun i _ => xs.length - (intOf i).toNat)
    case atStart => exact ⟨0, 0, Nat.zero_le _, rfl, rfl, rfl⟩
    case round =>
      obtain ⟨k, m, hk, rfl, rfl, hpre⟩ := hrel
      by_cases hlt : k < xs.length
      · have hly : k < ys.length := by have := Hl.out; omega
        rcases ha with ⟨h0, _⟩ | ⟨ba, oa, rfl, ha⟩
        · omega
        rcases hb with ⟨h0, _⟩ | ⟨bb, ob, rfl, hb⟩
        · omega
        have c1 := ha k _ (ints_get xs .i64 k hlt)
        have c2 := hb k _ (ints_get ys .i64 k hly)
        have hyl : (k : Int) < (ys.length : Int) := by omega
        have hn := fun (hne : xs.getD k 0 ≠ ys.getD k 0) => same_prefix_no hlt Hl.out hne
        have hstep : xs.getD k 0 = ys.getD k 0 → Hid (xs.take (k+1) = ys.take (k+1)) := fun e => by
          show xs.take (k+1) = ys.take (k+1)
          rw [take_getD xs k 0 hlt, take_getD ys k 0 hly, hpre.out, e]
        clear ha hb
        generalize xs.getD k 0 = p at *
        generalize ys.getD k 0 = q at *
        by_cases he : p = q
        · have he2 : (p != q) = false := by simp [he]
          have hs := hstep he
          clear hstep hn he
          go_wp2_with fail
          go_quiet (fail)
          go_wp2_with fail
          go_roundw
          case rel => exact ⟨k + 1, m + nq, by omega, by go_num, by simp, hs⟩
          case measure => simp [intOf]; omega
        · have he2 : (p != q) = true := by simp [he]
          have hs := Lib.hid (hn he)
          clear hstep hn he
          go_wp2_with fail
          go_quiet (fail)
          go_wp2_with fail
          go_ret
          exact ⟨by rw [hs.out]; rfl, m + nq, by simp⟩
      · have hk' : k = xs.length := by omega
        subst hk'
        go_wp2_with fail
        go_ret
        have e : xs = ys := by
          have := hpre.out
          rwa [List.take_of_length_le (Nat.le_refl _), List.take_of_length_le (by have := Hl.out; omega)] at this
        exact ⟨by rw [decide_eq_true e]; rfl, _, rfl⟩
  · have hl1 : ((xs.length : Int) != (ys.length : Int)) = true := by simp; omega
    have hne : decide (xs = ys) = false := by simp; intro e; exact hl (by rw [e])
    rw [hne]
    clear hl hne
    go_enter Try.func16, Try.ntmps16
    go_wp2_with fail
    go_ret
    exact ⟨rfl, 0, rfl⟩
end Go.Proofs.Ytdminbjenbbpaaa
