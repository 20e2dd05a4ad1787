/- The sequences behind a sequence, in lexicographic order: how many they are. Plain. -/
import Derived.Test.YtdminbjenbbpaaaG1
namespace Go.Proofs.Ytdminbjenbbpaaa

def sumTo (f : Nat → Nat) : Nat → Nat
  | 0 => 0
  | k + 1 => sumTo f k + f k
def mulN (c : Nat → Nat) : Nat → Nat
  | 0 => 1
  | k + 1 => mulN c k * bin (sumTo c k + c k) (c k)
def dec (c : Nat → Nat) (y : Nat) : Nat → Nat := fun z => if z = y then c z - 1 else c z

theorem sumTo_congr (f g : Nat → Nat) : ∀ m, (∀ y, y < m → f y = g y) → sumTo f m = sumTo g m
  | 0, _ => rfl
  | m + 1, h => by
    show sumTo f m + f m = sumTo g m + g m
    rw [sumTo_congr f g m (fun y hy => h y (by omega)), h m (by omega)]
theorem sumTo_mul (f : Nat → Nat) (b : Nat) : ∀ m, sumTo (fun y => f y * b) m = sumTo f m * b
  | 0 => (Nat.zero_mul b).symm
  | m + 1 => by
    show sumTo (fun y => f y * b) m + f m * b = (sumTo f m + f m) * b
    rw [sumTo_mul f b m, Nat.add_mul]
theorem sumTo_add (f g : Nat → Nat) : ∀ m, sumTo (fun y => f y + g y) m = sumTo f m + sumTo g m
  | 0 => rfl
  | m + 1 => by
    show sumTo (fun y => f y + g y) m + (f m + g m) = sumTo f m + f m + (sumTo g m + g m)
    rw [sumTo_add f g m]; omega
theorem sumTo_zero (f : Nat → Nat) : ∀ m, (∀ y, y < m → f y = 0) → sumTo f m = 0
  | 0, _ => rfl
  | m + 1, h => by
    show sumTo f m + f m = 0
    rw [sumTo_zero f m (fun y hy => h y (by omega)), h m (by omega)]
theorem sumTo_single (x v : Nat) : ∀ m, x < m → sumTo (fun y => if y = x then v else 0) m = v
  | 0, h => absurd h (by omega)
  | m + 1, h => by
    show sumTo (fun y => if y = x then v else 0) m + (if m = x then v else 0) = v
    by_cases e : m = x
    · rw [if_pos e, sumTo_zero _ m (fun y hy => if_neg (by omega)), Nat.zero_add]
    · rw [if_neg e, sumTo_single x v m (by omega), Nat.add_zero]
theorem sumTo_le (f : Nat → Nat) (x : Nat) : ∀ m, x < m → f x ≤ sumTo f m
  | 0, h => absurd h (by omega)
  | m + 1, h => by
    show f x ≤ sumTo f m + f m
    by_cases e : x = m
    · subst e; omega
    · have := sumTo_le f x m (by omega); omega
theorem dec_ne (c : Nat → Nat) (y z : Nat) (h : z ≠ y) : dec c y z = c z := if_neg h
theorem dec_eq (c : Nat → Nat) (y : Nat) : dec c y y = c y - 1 := if_pos rfl
theorem sum_dec_ge (c : Nat → Nat) (y m : Nat) (h : m ≤ y) : sumTo (dec c y) m = sumTo c m :=
  sumTo_congr _ _ m (fun z hz => dec_ne c y z (by omega))
theorem mul_dec_ge (c : Nat → Nat) (y : Nat) : ∀ m, m ≤ y → mulN (dec c y) m = mulN c m
  | 0, _ => rfl
  | m + 1, h => by
    show mulN (dec c y) m * bin (sumTo (dec c y) m + dec c y m) (dec c y m) = _
    rw [mul_dec_ge c y m (by omega), sum_dec_ge c y m (by omega), dec_ne c y m (by omega)]; rfl
theorem sum_dec_lt (c : Nat → Nat) (y : Nat) (h0 : 0 < c y) : ∀ m, y < m → sumTo (dec c y) m + 1 = sumTo c m
  | 0, h => absurd h (by omega)
  | m + 1, h => by
    show sumTo (dec c y) m + dec c y m + 1 = sumTo c m + c m
    by_cases e : m = y
    · subst e; rw [sum_dec_ge c m m (Nat.le_refl _), dec_eq]; omega
    · have := sum_dec_lt c y h0 m (by omega); rw [dec_ne c y m e]; omega
theorem mulN_rec (c : Nat → Nat) : ∀ m, 0 < sumTo c m → mulN c m = sumTo (fun y => if 0 < c y then mulN (dec c y) m else 0) m
  | 0, h => absurd h (Nat.lt_irrefl 0)
  | m + 1, h => by
    have hlast : (if 0 < c m then mulN (dec c m) (m + 1) else 0) = if 0 < c m then mulN c m * bin (sumTo c m + (c m - 1)) (c m - 1) else 0 := by
      show (if 0 < c m then mulN (dec c m) m * bin (sumTo (dec c m) m + dec c m m) (dec c m m) else 0) = _
      rw [mul_dec_ge c m m (Nat.le_refl _), sum_dec_ge c m m (Nat.le_refl _), dec_eq]
    show mulN c m * bin (sumTo c m + c m) (c m) = sumTo (fun y => if 0 < c y then mulN (dec c y) (m + 1) else 0) m + (if 0 < c m then mulN (dec c m) (m + 1) else 0)
    rw [hlast]
    by_cases hS : sumTo c m = 0
    · have hz : ∀ y, y < m → c y = 0 := fun y hy => by have := sumTo_le c y m hy; omega
      have hcm : 0 < c m := by have h' : 0 < sumTo c m + c m := h; omega
      rw [sumTo_zero _ m (fun y hy => if_neg (by rw [hz y hy]; omega)), if_pos hcm, hS, Nat.zero_add, Nat.zero_add, Nat.zero_add, bin_self, bin_self]
    · have hrest : sumTo (fun y => if 0 < c y then mulN (dec c y) (m + 1) else 0) m = mulN c m * bin (sumTo c m - 1 + c m) (c m) := by
        rw [mulN_rec c m (by omega), ← sumTo_mul]
        apply sumTo_congr
        intro y hy
        by_cases h0 : 0 < c y
        · rw [if_pos h0, if_pos h0]
          show mulN (dec c y) m * bin (sumTo (dec c y) m + dec c y m) (dec c y m) = _
          have := sum_dec_lt c y h0 m hy
          rw [dec_ne c y m (by omega), show sumTo (dec c y) m = sumTo c m - 1 by omega]
        · rw [if_neg h0, if_neg h0, Nat.zero_mul]
      rw [hrest]
      cases hc : c m with
      | zero => rw [if_neg (by omega), bin_zero, bin_zero]; rfl
      | succ k =>
        rw [if_pos (by omega), ← Nat.mul_add, show sumTo c m - 1 + (k + 1) = sumTo c m + k by omega, show sumTo c m + (k + 1) = sumTo c m + k + 1 by omega, bin_succ, show k + 1 - 1 = k by omega]
        congr 1; omega

/-! ### lists -/
def cn (l : List Nat) : Nat → Nat := fun z => l.count z
/-- How many begin with something above x. -/
def above (m x : Nat) (c : Nat → Nat) : Nat := sumTo (fun y => if x < y ∧ 0 < c y then mulN (dec c y) m else 0) m
/-- How many sequences of the same picks lie behind this one. -/
def rem (m : Nat) : List Nat → Nat
  | [] => 0
  | x :: t => rem m t + above m x (cn (x :: t))
theorem rem_desc (m : Nat) : ∀ l : List Nat, l.Pairwise (fun a b => b ≤ a) → rem m l = 0
  | [], _ => rfl
  | x :: t, h => by
    rw [List.pairwise_cons] at h
    show rem m t + above m x (cn (x :: t)) = 0
    rw [rem_desc m t h.2, Nat.zero_add]
    refine sumTo_zero _ m (fun y _ => if_neg ?_)
    rintro ⟨h1, h2⟩
    have hm : y ∈ x :: t := List.count_pos_iff.1 h2
    rcases List.mem_cons.1 hm with e | e
    · omega
    · have := h.1 y e; omega
theorem cn_dec (x : Nat) (t : List Nat) : dec (cn (x :: t)) x = cn t := by
  funext z
  by_cases e : z = x
  · subst e; rw [dec_eq]; show (z :: t).count z - 1 = t.count z; rw [List.count_cons_self]; omega
  · rw [dec_ne _ _ _ e]; exact List.count_cons_of_ne (Ne.symm e)
theorem rem_asc (m : Nat) : ∀ l : List Nat, l.Pairwise (fun a b => a ≤ b) → (∀ z ∈ l, z < m) → rem m l + 1 = mulN (cn l) m
  | [], _, _ => by
    have : ∀ m, mulN (cn []) m = 1 := fun m => by
      induction m with
      | zero => rfl
      | succ k ih => show mulN (cn []) k * bin (sumTo (cn []) k + 0) 0 = 1; rw [ih, bin_zero]
    rw [this]; rfl
  | x :: t, h, hm => by
    rw [List.pairwise_cons] at h
    have hx := hm x (List.mem_cons_self ..)
    have ih := rem_asc m t h.2 (fun z hz => hm z (List.mem_cons_of_mem _ hz))
    have hcx : 0 < cn (x :: t) x := by show 0 < (x :: t).count x; rw [List.count_cons_self]; omega
    have hpos : 0 < sumTo (cn (x :: t)) m := by have := sumTo_le (cn (x :: t)) x m hx; omega
    rw [mulN_rec _ m hpos]
    have hsplit : sumTo (fun y => if 0 < cn (x :: t) y then mulN (dec (cn (x :: t)) y) m else 0) m = sumTo (fun y => (if y = x then mulN (cn t) m else 0) + (if x < y ∧ 0 < cn (x :: t) y then mulN (dec (cn (x :: t)) y) m else 0)) m := by
      apply sumTo_congr
      intro y _
      rcases Nat.lt_trichotomy y x with hlt | rfl | hgt
      · rw [if_neg (show ¬ y = x by omega), if_neg (show ¬ (x < y ∧ _) by rintro ⟨a, _⟩; omega), if_neg]
        intro h2
        have hmem : y ∈ x :: t := List.count_pos_iff.1 h2
        rcases List.mem_cons.1 hmem with e | e
        · omega
        · have := h.1 y e; omega
      · rw [if_pos hcx, if_pos rfl, if_neg (show ¬ (y < y ∧ _) by rintro ⟨a, _⟩; omega), cn_dec, Nat.add_zero]
      · rw [if_neg (show ¬ y = x by omega), Nat.zero_add]
        by_cases h0 : 0 < cn (x :: t) y
        · rw [if_pos h0, if_pos ⟨hgt, h0⟩]
        · rw [if_neg h0, if_neg (fun hh => h0 hh.2)]
    rw [hsplit, sumTo_add, sumTo_single x _ m hx, ← ih]
    show rem m t + above m x (cn (x :: t)) + 1 = _
    unfold above; omega
theorem next_cn (p : List Nat) (x : Nat) (a : List Nat) (y : Nat) (b : List Nat) : cn (p ++ y :: (b.reverse ++ x :: a.reverse)) = cn (p ++ x :: (a ++ y :: b)) := by
  funext z
  show List.count z _ = List.count z _
  simp only [List.count_append, List.count_cons, List.count_reverse]
  omega
/-- The step to the next sequence. -/
theorem next_rem (m x : Nat) (a : List Nat) (y : Nat) (b : List Nat) (hd : (a ++ y :: b).Pairwise (fun u v => v ≤ u)) (hxy : x < y) (hb : ∀ z ∈ b, z ≤ x) (hxm : x < m) (hlt : ∀ z ∈ a ++ y :: b, z < m) :
    ∀ p : List Nat, rem m (p ++ x :: (a ++ y :: b)) = rem m (p ++ y :: (b.reverse ++ x :: a.reverse)) + 1
  | [] => by
    have hcn := next_cn [] x a y b
    rw [List.nil_append, List.nil_append] at hcn
    show rem m (a ++ y :: b) + above m x (cn (x :: (a ++ y :: b))) = rem m (b.reverse ++ x :: a.reverse) + above m y (cn (y :: (b.reverse ++ x :: a.reverse))) + 1
    rw [rem_desc m _ hd, Nat.zero_add]
    rw [List.pairwise_append, List.pairwise_cons] at hd
    obtain ⟨ha, ⟨hyb, hbb⟩, hab⟩ := hd
    have hay : ∀ z ∈ a, y ≤ z := fun z hz => hab z hz y (List.mem_cons_self ..)
    have hasc : (b.reverse ++ x :: a.reverse).Pairwise (fun u v => u ≤ v) := by
      rw [List.pairwise_append, List.pairwise_cons, List.pairwise_reverse, List.pairwise_reverse]
      refine ⟨hbb, ⟨fun z hz => ?_, ha⟩, fun u hu v hv => ?_⟩
      · have := hay z (List.mem_reverse.1 hz); omega
      · have h1 := hb u (List.mem_reverse.1 hu)
        rcases List.mem_cons.1 hv with e | e
        · omega
        · have := hay v (List.mem_reverse.1 e); omega
    have hr := rem_asc m _ hasc (fun z hz => by
      rcases List.mem_append.1 hz with e | e
      · exact hlt z (List.mem_append_right _ (List.mem_cons_of_mem _ (List.mem_reverse.1 e)))
      · rcases List.mem_cons.1 e with e | e
        · omega
        · exact hlt z (List.mem_append_left _ (List.mem_reverse.1 e)))
    have hdec : cn (b.reverse ++ x :: a.reverse) = dec (cn (x :: (a ++ y :: b))) y := by rw [← hcn, cn_dec]
    have hy : 0 < cn (x :: (a ++ y :: b)) y := by rw [← hcn]; show 0 < List.count y _; rw [List.count_cons_self]; omega
    have hym : y < m := hlt y (List.mem_append_right _ (List.mem_cons_self ..))
    rw [hcn]
    rw [hdec] at hr
    have hz : ∀ z, x < z → z < y → ¬ 0 < cn (x :: (a ++ y :: b)) z := fun z h1 h2 h3 => by
      have hmem : z ∈ x :: (a ++ y :: b) := List.count_pos_iff.1 h3
      rcases List.mem_cons.1 hmem with e | e
      · omega
      · rcases List.mem_append.1 e with e | e
        · have := hay z e; omega
        · rcases List.mem_cons.1 e with e | e
          · omega
          · have := hb z e; omega
    generalize cn (x :: (a ++ y :: b)) = c at *
    have : above m x c = mulN (dec c y) m + above m y c := by
      unfold above
      rw [← sumTo_single y (mulN (dec c y) m) m hym, ← sumTo_add]
      apply sumTo_congr
      intro z _
      rcases Nat.lt_trichotomy z y with h | rfl | h
      · rw [if_neg (show ¬ z = y by omega), if_neg (show ¬ (y < z ∧ _) by rintro ⟨a, _⟩; omega), if_neg (fun hh => hz z hh.1 h hh.2)]
      · rw [if_pos rfl, if_neg (show ¬ (z < z ∧ _) by rintro ⟨a, _⟩; omega), if_pos ⟨hxy, hy⟩, Nat.add_zero]
      · rw [if_neg (show ¬ z = y by omega), Nat.zero_add]
        by_cases h0 : 0 < c z
        · rw [if_pos ⟨by omega, h0⟩, if_pos ⟨h, h0⟩]
        · rw [if_neg (fun hh => h0 hh.2), if_neg (fun hh => h0 hh.2)]
    omega
  | q :: p => by
    show rem m (p ++ x :: (a ++ y :: b)) + above m q (cn (q :: (p ++ x :: (a ++ y :: b)))) = rem m (p ++ y :: (b.reverse ++ x :: a.reverse)) + above m q (cn (q :: (p ++ y :: (b.reverse ++ x :: a.reverse)))) + 1
    have hcn := next_cn (q :: p) x a y b
    rw [List.cons_append, List.cons_append] at hcn
    rw [next_rem m x a y b hd hxy hb hxm hlt p, hcn]; omega
end Go.Proofs.Ytdminbjenbbpaaa
