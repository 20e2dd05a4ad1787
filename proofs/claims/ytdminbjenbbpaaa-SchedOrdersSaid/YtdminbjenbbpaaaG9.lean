/- What Count answers is the number of the sequences. Plain. -/
import Derived.Test.YtdminbjenbbpaaaG2
import Derived.Test.YtdminbjenbbpaaaG7
import Derived.Test.YtdminbjenbbpaaaG8
namespace Go.Proofs.Ytdminbjenbbpaaa

theorem cntS_refS (st : Nat × Nat) (s : Int) : cntS st s = refS st s.toNat := by
  obtain ⟨t, c⟩ := st
  unfold cntS refS
  by_cases hs : s ≤ 0
  · rw [if_pos hs, show s.toNat = 0 by omega, Nat.add_zero, bin_zero, Nat.mul_one]
  · rw [if_neg hs]
    generalize s.toNat = n
    by_cases ht : t = 0
    · subst ht; simp only [if_pos, Nat.zero_add, bin_self, Nat.mul_one]
    · simp only [if_neg ht]
      congr 2
      by_cases h : t ≤ n
      · rw [Nat.min_eq_left h]; exact bin_sym _ _ _ rfl
      · rw [Nat.min_eq_right (by omega)]
theorem cnt_ref_fold : ∀ (l : List Int) (st : Nat × Nat), l.foldl cntS st = (l.map Int.toNat).foldl refS st
  | [], _ => rfl
  | s :: l, st => by
    rw [List.foldl_cons, cntS_refS, cnt_ref_fold l, List.map_cons, List.foldl_cons]
theorem cntP_refP (l : List Int) : cntP l = refP (l.map Int.toNat) := by
  unfold cntP refP; rw [cnt_ref_fold]
theorem ref_mulN (l : List Nat) : ∀ k, k ≤ l.length → (l.take k).foldl refS (0, 1) = (sumTo (fun i => l.getD i 0) k, mulN (fun i => l.getD i 0) k)
  | 0, _ => by rw [List.take_zero]; rfl
  | k + 1, h => by rw [ref_take l k (by omega), ref_mulN l k (by omega)]; rfl
theorem refP_mulN (l : List Nat) : refP l = mulN (fun i => l.getD i 0) l.length := by
  unfold refP
  rw [← List.take_length (l := l), ref_mulN l l.length (Nat.le_refl _), List.take_length]
/-- The first sequence: each machine's steps, machine by machine. -/
def firstL (c : Nat → Nat) : Nat → List Nat
  | 0 => []
  | m + 1 => firstL c m ++ List.replicate (c m) m
theorem first_lt (c : Nat → Nat) : ∀ m, ∀ z ∈ firstL c m, z < m
  | 0, z, h => absurd h List.not_mem_nil
  | m + 1, z, h => by
    rcases List.mem_append.1 h with e | e
    · have := first_lt c m z e; omega
    · have := (List.mem_replicate.1 e).2; omega
theorem first_asc (c : Nat → Nat) : ∀ m, (firstL c m).Pairwise (fun a b => a ≤ b)
  | 0 => List.Pairwise.nil
  | m + 1 => by
    show (firstL c m ++ List.replicate (c m) m).Pairwise _
    rw [List.pairwise_append]
    refine ⟨first_asc c m, ?_, fun u hu v hv => ?_⟩
    · rw [List.pairwise_replicate]; exact .inr (Nat.le_refl _)
    · have := first_lt c m u hu; have := (List.mem_replicate.1 hv).2; omega
theorem first_len (c : Nat → Nat) : ∀ m, (firstL c m).length = sumTo c m
  | 0 => rfl
  | m + 1 => by
    show (firstL c m ++ List.replicate (c m) m).length = sumTo c m + c m
    rw [List.length_append, first_len c m, List.length_replicate]
theorem first_cn (c : Nat → Nat) : ∀ m y, y < m → cn (firstL c m) y = c y
  | 0, y, h => absurd h (by omega)
  | m + 1, y, h => by
    show (firstL c m ++ List.replicate (c m) m).count y = c y
    rw [List.count_append, List.count_replicate]
    by_cases e : y = m
    · subst e
      have : (firstL c y).count y = 0 := List.count_eq_zero.2 (fun hm => by have := first_lt c y y hm; omega)
      rw [this]; simp
    · have := first_cn c m y (by omega)
      rw [show (firstL c m).count y = c y from this]
      have : (m == y) = false := by rw [beq_eq_false_iff_ne]; omega
      rw [if_neg (by rw [this]; decide), Nat.add_zero]
theorem mulN_congr (f g : Nat → Nat) : ∀ m, (∀ y, y < m → f y = g y) → mulN f m = mulN g m
  | 0, _ => rfl
  | m + 1, h => by
    show mulN f m * bin (sumTo f m + f m) (f m) = _
    rw [mulN_congr f g m (fun y hy => h y (by omega)), sumTo_congr f g m (fun y hy => h y (by omega)), h m (by omega)]; rfl
/-- Behind the first lie as many as Count says, but one. -/
theorem rem_first (c : Nat → Nat) (m : Nat) : rem m (firstL c m) + 1 = mulN c m := by
  rw [rem_asc m _ (first_asc c m) (first_lt c m)]
  exact mulN_congr _ _ m (fun y hy => first_cn c m y hy)
/-- n answers of Interleavings: the walk's count, from a sequence on. -/
theorem forty : refP [40, 40, 40] > most := by decide
end Go.Proofs.Ytdminbjenbbpaaa
