/- The reference's cuts in order, and Count (plain). -/
import Derived.Test.YtpgjpoilcdkjgaaQ5
import Derived.Test.YtpgjpoilcdkjgaaO5
import Derived.Test.YtpgjpoilcdkjgaaQ7
namespace Go.Proofs.Ytpgjpoilcdkjgaa
/-! ### the reference -/
def cutD (l : List RSt) : Nat → List Nat × Nat → List Nat × Nat
  | 0, s => s
  | m + 1, s => cutD l m (cutStep l s m)
theorem set_same (l : List Nat) (i : Nat) (h : l.getD i 0 = 0) : l.set i 0 = l := by
  apply List.ext_getElem?
  intro j
  rw [List.getElem?_set]
  split
  · rename_i e
    subst e
    split
    · rename_i hl
      rw [get_of_lt 0 hl, h]
    · rename_i hl
      rw [List.getElem?_eq_none (by omega)]
  · rfl
theorem fold_lines (l : List RSt) : ∀ (m : Nat) (s : List Nat × Nat), (∀ x, x < m → s.1.getD x 0 = 0) → (linesK l m).reverse.foldl (cutStep l) s = cutD l m s
  | 0, s, _ => rfl
  | m + 1, s, h => by
    rw [linesK_succ]
    by_cases hl : 0 < looseP l m
    · rw [if_pos hl, List.reverse_append]
      show (linesK l m).reverse.foldl (cutStep l) (cutStep l s m) = cutD l m (cutStep l s m)
      refine fold_lines l m _ fun x hx => ?_
      show (s.1.set m _).getD x 0 = 0
      rw [List.getD, List.getElem?_set, if_neg (by omega)]
      exact h x (by omega)
    · rw [if_neg hl, List.append_nil]
      have e : cutStep l s m = s := by
        unfold cutStep
        rw [show looseP l m + 1 = 1 by omega, Nat.mod_one, Nat.div_one, set_same _ _ (h m (by omega))]
      show _ = cutD l m (cutStep l s m)
      rw [e]
      exact fold_lines l m s fun x hx => h x (by omega)
theorem cutD_dig (l : List RSt) : ∀ (m : Nat) (t : List Nat) (n x : Nat), m ≤ t.length → (cutD l m (t, n)).1.getD x 0 = if x < m then dig (fun y => looseP l y + 1) m n x else t.getD x 0
  | 0, t, n, x, _ => by rw [if_neg (by omega)]; rfl
  | m + 1, t, n, x, h => by
    show (cutD l m (t.set m (n % (looseP l m + 1)), n / (looseP l m + 1))).1.getD x 0 = _
    rw [cutD_dig l m _ _ x (by simp; omega), getD_setN _ _ _ _ (by omega)]
    by_cases hx : x < m
    · rw [if_pos hx, if_pos (by omega)]
      show _ = (if x = m then _ else _)
      rw [if_neg (by omega)]
    · rw [if_neg hx]
      by_cases e : x = m
      · rw [if_pos e, if_pos (by omega)]
        show _ = (if x = m then _ else _)
        rw [if_pos e]
      · rw [if_neg e, if_neg (by omega)]
theorem loose_far {G : Gr} (ok : G.Ok) (y : Nat) (h : G.n ≤ y) : looseP (stf G) y = 0 := by
  unfold looseP
  rw [List.length_eq_zero_iff, List.filter_eq_nil_iff]
  intro s hs
  unfold stf at hs
  rw [List.mem_map] at hs
  obtain ⟨i, hi, rfl⟩ := hs
  rw [List.mem_range] at hi
  have := (ok.line_lt hi).1
  unfold loosB
  simp
  omega
theorem loose_base {G : Gr} (hc : G.Count) (x : Nat) (h : x < G.n) : looseP (stf G) x + 1 = bsG G x := by
  unfold bsG
  rw [loose_all hc, hc.count x h]
theorem fold_dig {G : Gr} (ok : G.Ok) (hc : G.Count) (N n x : Nat) (hN : G.n ≤ N) (hx : x < G.n) : ((linesK (stf G) N).reverse.foldl (cutStep (stf G)) (List.replicate N 0, n)).1.getD x 0 = dig (bsG G) G.n n x := by
  rw [fold_lines _ _ _ (fun x hx => by show (List.replicate N 0).getD x 0 = 0; rw [List.getD, List.getElem?_replicate]; split <;> rfl), cutD_dig _ _ _ _ _ (by simp), if_pos (by omega),
    dig_trim (k := G.n) (fun y hy => by show looseP _ y + 1 = 1; rw [loose_far ok y hy]) hx _ hN]
  exact dig_congr _ _ _ fun y hy => loose_base hc y hy
theorem rcut_taken {G : Gr} (ok : G.Ok) (hc : G.Count) (n : Nat) : rcut (stf G) n = cutL G (takenN G n) := by
  obtain ⟨b1, b2, _⟩ := cutF_bd (stf G) (linesK (stf G) 4096) n _ (Nat.le_refl _)
  have hn2 := ok.n2
  have e : takenL G (cutF (stf G) (linesK (stf G) 4096) n (linesK (stf G) 4096).length).1 = takenN G n := by
    unfold takenL takenN
    refine List.map_congr_left fun x hx => ?_
    have hx := List.mem_range.1 hx
    have h1 := fold_dig ok hc 4096 n x hn2 hx
    have h2 : cutF (stf G) (linesK (stf G) 4096) n (linesK (stf G) 4096).length = (linesK (stf G) 4096).reverse.foldl (cutStep (stf G)) (List.replicate 4096 0, n) := by
      unfold cutF
      rw [← List.length_reverse, List.take_length]
    rw [h2, h1]
  unfold rcut
  rw [stf_length, (pick_spec ok hc _ b1 _ (Nat.le_refl _)).1, e]
  rfl
/-! ### Count -/
theorem cntP_prod (G : Gr) : ∀ k, cntP G k = if prodB (bsG G) k ≤ 4611686018427387904 then some (prodB (bsG G) k) else none
  | 0 => by rw [if_pos (by show 1 ≤ _; omega)]; rfl
  | k + 1 => by
    have hb := bsG_pos G k
    have hle : prodB (bsG G) k ≤ prodB (bsG G) (k + 1) := Nat.le_mul_of_pos_right _ hb
    have hP : prodB (bsG G) (k + 1) = prodB (bsG G) k * bsG G k := rfl
    have hbe : bsG G k = G.ct.getD k 0 - G.md.getD k 0 + 1 := rfl
    unfold cntP
    rw [cntP_prod G k]
    by_cases h : prodB (bsG G) k ≤ 4611686018427387904
    · rw [if_pos h]
      simp only [← hbe, ← hP]
      by_cases h2 : prodB (bsG G) (k + 1) ≤ 4611686018427387904
      · rw [if_pos h2, if_neg (by omega)]
      · rw [if_neg h2, if_pos (by omega)]
    · rw [if_neg h, if_neg (by omega)]
def prodS (l : List RSt) : List Nat → Nat
  | [] => 1
  | x :: r => (looseP l x + 1) * prodS l r
theorem prodS_snoc (l : List RSt) (x : Nat) : ∀ ls : List Nat, prodS l (ls ++ [x]) = prodS l ls * (looseP l x + 1)
  | [] => by simp [prodS]
  | y :: r => by rw [List.cons_append, prodS, prodS, prodS_snoc l x r, Nat.mul_assoc]
theorem prodS_pos (l : List RSt) : ∀ ls, 1 ≤ prodS l ls
  | [] => Nat.le_refl _
  | x :: r => Nat.mul_le_mul (Nat.succ_le_succ (Nat.zero_le _)) (prodS_pos l r)
theorem rcK_prod (l : List RSt) (ls : List Nat) : ∀ k, k ≤ ls.length → rcK l ls k = if prodS l (ls.take k) ≤ 4611686018427387904 then some (prodS l (ls.take k)) else none
  | 0, _ => by rw [List.take_zero, if_pos (by show 1 ≤ _; omega)]; rfl
  | k + 1, hk => by
    have e : prodS l (ls.take (k + 1)) = prodS l (ls.take k) * (looseP l (ls.getD k 0) + 1) := by rw [take_getD ls k 0 (by omega), prodS_snoc]
    have hp := prodS_pos l (ls.take k)
    unfold rcK
    rw [rcK_prod l ls k (by omega), e]
    generalize prodS l (ls.take k) = t at *
    generalize hb : looseP l (ls.getD k 0) + 1 = b
    have hb1 : 0 < b := by omega
    have hle : t ≤ t * b := Nat.le_mul_of_pos_right _ hb1
    have hiff : 4611686018427387904 / b < t ↔ 4611686018427387904 < t * b := Nat.div_lt_iff_lt_mul hb1
    by_cases h : t ≤ 4611686018427387904
    · rw [if_pos h]
      simp only
      by_cases h2 : t * b ≤ 4611686018427387904
      · rw [if_pos h2, if_neg (by rw [hiff]; omega)]
      · rw [if_neg h2, if_pos (hiff.2 (by omega))]
    · rw [if_neg h, if_neg (by omega)]
theorem prodS_lines (l : List RSt) : ∀ m, prodS l (linesK l m) = prodB (fun y => looseP l y + 1) m
  | 0 => rfl
  | m + 1 => by
    rw [linesK_succ]
    show _ = prodB _ m * (looseP l m + 1)
    by_cases h : 0 < looseP l m
    · rw [if_pos h, prodS_snoc, prodS_lines l m]
    · rw [if_neg h, List.append_nil, prodS_lines l m, show looseP l m + 1 = 1 by omega, Nat.mul_one]
theorem rcnt_eq {G : Gr} (ok : G.Ok) (hc : G.Count) : rcnt (stf G) = cntP G G.n := by
  unfold rcnt
  rw [rcK_prod _ _ _ (Nat.le_refl _), List.take_length, prodS_lines, prodB_trim (k := G.n) (fun y hy => by show looseP _ y + 1 = 1; rw [loose_far ok y hy]) _ ok.n2, prodB_congr G.n (fun y hy => loose_base hc y hy), cntP_prod]
end Go.Proofs.Ytpgjpoilcdkjgaa
