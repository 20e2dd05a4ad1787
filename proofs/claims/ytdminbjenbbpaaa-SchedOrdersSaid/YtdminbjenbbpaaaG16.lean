/- SchedCounts, the plain law: both Counts, and the number of the sequences. -/
import Derived.Test.YtdminbjenbbpaaaG13
namespace Go.Proofs.Ytdminbjenbbpaaa
theorem count40 : countV [40, 40, 40] = (most, false) := by
  have h : ¬ cntP [40, 40, 40] ≤ most := by
    rw [cntP_refP]; have := forty; exact Nat.not_le.2 this
  unfold countV; rw [if_neg h]
theorem count_small (l : List Int) (hl : l.length ≤ 4) (hs : ∀ s ∈ l, s ≤ 6) : countV l = (refP (l.map Int.toNat), true) := by
  have hlen : (l.map Int.toNat).length = l.length := List.length_map ..
  have hb := (ref_bound (l.map Int.toNat) (fun s hm => by
    obtain ⟨x, hx, rfl⟩ := List.mem_map.1 hm
    have := hs x hx; omega) (l.map Int.toNat).length (Nat.le_refl _)).2
  rw [List.take_length] at hb
  have he := expo_four (l.map Int.toNat).length (by omega)
  have h2 : 2 ^ expo (l.map Int.toNat).length ≤ 2 ^ 56 := Nat.pow_le_pow_right (by omega) he
  have hp : refP (l.map Int.toNat) ≤ most := by
    show ((l.map Int.toNat).foldl refS (0, 1)).2 ≤ 4611686018427387904
    have h3 : (2 : Nat) ^ 56 = 72057594037927936 := by decide
    omega
  unfold countV; rw [cntP_refP, if_pos hp]
theorem refP_sz (l : List Int) : refP (l.map Int.toNat) = mulN (sz l) l.length := by
  rw [refP_mulN, List.length_map]
  apply mulN_congr
  intro y hy
  show (l.map Int.toNat).getD y 0 = (l.getD y 0).toNat
  rw [List.getD_eq_getElem?_getD, List.getD_eq_getElem?_getD, List.getElem?_map, List.getElem?_eq_getElem hy]; rfl
/-- Behind the first sequence lie as many as Count says, but one. -/
theorem count_rem (l : List Int) (hl : l.length ≤ 4) (hs : ∀ s ∈ l, s ≤ 6) : (countV l).1 = rem l.length (firstL (sz l) l.length) + 1 ∧ (countV l).2 = true := by
  rw [count_small l hl hs, rem_first]
  exact ⟨refP_sz l, rfl⟩
end Go.Proofs.Ytdminbjenbbpaaa
