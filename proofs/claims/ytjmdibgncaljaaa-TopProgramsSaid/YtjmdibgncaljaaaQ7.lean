/- The cuts in order (plain): the numbers taken of the lines are the digits of the cut's number; next takes the digits of n to those of n + 1. -/
import Derived.Test.YtjmdibgncaljaaaO2
namespace Go.Proofs.Ytjmdibgncaljaaa

/-- The digits of n in the bases b, the last line's first. -/
def dig (b : Nat → Nat) : Nat → Nat → Nat → Nat
  | 0, _, _ => 0
  | m + 1, n, x => if x = m then n % b m else dig b m (n / b m) x
def prodB (b : Nat → Nat) : Nat → Nat
  | 0 => 1
  | m + 1 => prodB b m * b m
theorem prodB_pos {b : Nat → Nat} (hb : ∀ x, 1 ≤ b x) : ∀ m, 1 ≤ prodB b m
  | 0 => Nat.le_refl _
  | m + 1 => Nat.mul_le_mul (prodB_pos hb m) (hb m)
theorem prodB_trim {b : Nat → Nat} {k : Nat} (h : ∀ y, k ≤ y → b y = 1) : ∀ m, k ≤ m → prodB b m = prodB b k := by
  intro m hm
  induction hm with
  | refl => rfl
  | step hm ih => show prodB b _ * b _ = _; rw [ih, h _ hm, Nat.mul_one]
theorem dig_trim {b : Nat → Nat} {k n x : Nat} (h : ∀ y, k ≤ y → b y = 1) (hx : x < k) : ∀ m, k ≤ m → dig b m n x = dig b k n x := by
  intro m hm
  induction hm with
  | refl => rfl
  | @step m hm ih =>
    have hm : k ≤ m := hm
    show (if x = m then _ else dig b m (n / b m) x) = _
    rw [if_neg (by omega), h _ hm, Nat.div_one, ih]
theorem dig_congr {b b' : Nat → Nat} : ∀ (m n x : Nat), (∀ y, y < m → b y = b' y) → dig b m n x = dig b' m n x
  | 0, _, _, _ => rfl
  | m + 1, n, x, h => by
    show (if x = m then n % b m else dig b m (n / b m) x) = if x = m then n % b' m else dig b' m (n / b' m) x
    rw [h m (by omega), dig_congr m _ x (fun y hy => h y (by omega))]
theorem prodB_congr {b b' : Nat → Nat} : ∀ (m : Nat), (∀ y, y < m → b y = b' y) → prodB b m = prodB b' m
  | 0, _ => rfl
  | m + 1, h => by
    show prodB b m * b m = prodB b' m * b' m
    rw [h m (by omega), prodB_congr m (fun y hy => h y (by omega))]
/-- What next does, from line m - 1 down. -/
def nextP (G : Gr) : Nat → List Nat → List Nat × Bool
  | 0, T => (T, false)
  | m + 1, T => if T.getD m 0 < G.ct.getD m 0 then (T.set m (T.getD m 0 + 1), true) else nextP G m (T.set m (G.md.getD m 0))
def bsG (G : Gr) (x : Nat) : Nat := G.ct.getD x 0 - G.md.getD x 0 + 1
theorem bsG_pos (G : Gr) : ∀ x, 1 ≤ bsG G x := fun x => Nat.succ_le_succ (Nat.zero_le _)
def takenN (G : Gr) (n : Nat) : List Nat := (List.range G.n).map fun x => G.md.getD x 0 + dig (bsG G) G.n n x
theorem takenN_len (G : Gr) (n : Nat) : (takenN G n).length = G.n := by simp [takenN]
theorem takenN_get (G : Gr) (n x : Nat) (h : x < G.n) : (takenN G n).getD x 0 = G.md.getD x 0 + dig (bsG G) G.n n x := by
  unfold takenN; rw [List.getD, List.getElem?_map, List.getElem?_range h]; rfl
theorem getD_setN (l : List Nat) (i j v : Nat) (h : i < l.length) : (l.set i v).getD j 0 = if j = i then v else l.getD j 0 := by
  rw [List.getD, List.getD, List.getElem?_set]
  by_cases e : i = j
  · subst e; rw [if_pos rfl, if_pos rfl, if_pos h]; rfl
  · rw [if_neg e, if_neg (fun e' => e e'.symm)]
theorem next_step {G : Gr} (ok : G.Ok) : ∀ (m n : Nat) (T : List Nat), m ≤ G.n → T.length = G.n → (∀ x, x < m → T.getD x 0 = G.md.getD x 0 + dig (bsG G) m n x) → n < prodB (bsG G) m →
    (n + 1 < prodB (bsG G) m → (nextP G m T).2 = true ∧ (nextP G m T).1.length = G.n ∧ (∀ x, x < m → (nextP G m T).1.getD x 0 = G.md.getD x 0 + dig (bsG G) m (n + 1) x) ∧ ∀ x, m ≤ x → (nextP G m T).1.getD x 0 = T.getD x 0) ∧
    (¬ n + 1 < prodB (bsG G) m → (nextP G m T).2 = false)
  | 0, n, T, _, _, _, hn => ⟨fun h => absurd h (by have : n < 1 := hn; show ¬ n + 1 < 1; omega), fun _ => rfl⟩
  | m + 1, n, T, hm, hT, hd, hn => by
    have hb := bsG_pos G m
    have hmc := ok.mc m
    have hP : prodB (bsG G) (m + 1) = prodB (bsG G) m * bsG G m := rfl
    have hbe : bsG G m = G.ct.getD m 0 - G.md.getD m 0 + 1 := rfl
    have hTm := hd m (by omega)
    have hTm : T.getD m 0 = G.md.getD m 0 + n % bsG G m := by rw [hTm]; show _ + (if m = m then _ else _) = _; rw [if_pos rfl]
    have hlt := Nat.mod_lt n hb
    have hdm := Nat.div_add_mod n (bsG G m)
    have hq : n / bsG G m < prodB (bsG G) m := by
      rw [hP] at hn
      exact (Nat.div_lt_iff_lt_mul hb).2 hn
    by_cases hc : T.getD m 0 < G.ct.getD m 0
    · have e1 : nextP G (m + 1) T = (T.set m (T.getD m 0 + 1), true) := by show (if _ then _ else _) = _; rw [if_pos hc]
      have hr : n % bsG G m + 1 < bsG G m := by omega
      have e2 : (n + 1) / bsG G m = n / bsG G m := by
        rw [← hdm, Nat.add_assoc, Nat.mul_add_div hb, Nat.div_eq_of_lt hr, Nat.mul_add_div hb, Nat.div_eq_of_lt hlt]
      have e3 : (n + 1) % bsG G m = n % bsG G m + 1 := by
        conv => lhs; rw [← hdm, Nat.add_assoc, Nat.mul_add_mod, Nat.mod_eq_of_lt hr]
      have hin : n + 1 < prodB (bsG G) (m + 1) := by
        rw [hP]
        exact (Nat.div_lt_iff_lt_mul hb).1 (by rw [e2]; exact hq)
      rw [e1]
      refine ⟨fun _ => ⟨rfl, by simpa using hT, fun x hx => ?_, fun x hx => ?_⟩, fun h => absurd hin h⟩
      · show (T.set m (T.getD m 0 + 1)).getD x 0 = G.md.getD x 0 + (if x = m then (n + 1) % bsG G m else dig (bsG G) m ((n + 1) / bsG G m) x)
        rw [getD_setN _ _ _ _ (by omega)]
        by_cases e : x = m
        · subst e; rw [if_pos rfl, if_pos rfl, e3, hTm]; omega
        · rw [if_neg e, if_neg e, e2, hd x hx]
          show _ + (if x = m then _ else _) = _
          rw [if_neg e]
      · show (T.set m (T.getD m 0 + 1)).getD x 0 = _
        rw [getD_setN _ _ _ _ (by omega), if_neg (by omega)]
    · have e1 : nextP G (m + 1) T = nextP G m (T.set m (G.md.getD m 0)) := by show (if _ then _ else _) = _; rw [if_neg hc]
      have hr : n % bsG G m + 1 = bsG G m := by omega
      have e2 : n + 1 = (n / bsG G m + 1) * bsG G m := by rw [Nat.succ_mul, Nat.mul_comm (n / bsG G m)]; omega
      have e4 : (n + 1) / bsG G m = n / bsG G m + 1 := by rw [e2, Nat.mul_div_cancel _ hb]
      have e5 : (n + 1) % bsG G m = 0 := by rw [e2, Nat.mul_mod_left]
      have hiff : n + 1 < prodB (bsG G) (m + 1) ↔ n / bsG G m + 1 < prodB (bsG G) m := by
        rw [hP, ← e4]; exact (Nat.div_lt_iff_lt_mul hb).symm
      have ih := next_step ok m (n / bsG G m) (T.set m (G.md.getD m 0)) (by omega) (by simpa using hT) (fun x hx => by
        rw [getD_setN _ _ _ _ (by omega), if_neg (by omega), hd x (by omega)]
        show _ + (if x = m then _ else _) = _
        rw [if_neg (by omega)]) hq
      rw [e1]
      refine ⟨fun h => ?_, fun h => ih.2 (fun h' => h (hiff.2 h'))⟩
      obtain ⟨i1, i2, i3, i4⟩ := ih.1 (hiff.1 h)
      refine ⟨i1, i2, fun x hx => ?_, fun x hx => ?_⟩
      · show _ = G.md.getD x 0 + (if x = m then (n + 1) % bsG G m else dig (bsG G) m ((n + 1) / bsG G m) x)
        by_cases e : x = m
        · subst e
          rw [if_pos rfl, e5, i4 x (Nat.le_refl _), getD_setN _ _ _ _ (by omega), if_pos rfl, Nat.add_zero]
        · rw [if_neg e, e4, i3 x (by omega)]
      · rw [i4 x (by omega), getD_setN _ _ _ _ (by omega), if_neg (by omega)]
theorem next_taken {G : Gr} (ok : G.Ok) (n : Nat) (hn : n < prodB (bsG G) G.n) :
    (n + 1 < prodB (bsG G) G.n → nextP G G.n (takenN G n) = (takenN G (n + 1), true)) ∧ (¬ n + 1 < prodB (bsG G) G.n → (nextP G G.n (takenN G n)).2 = false) := by
  obtain ⟨h1, h2⟩ := next_step ok G.n n (takenN G n) (Nat.le_refl _) (takenN_len G n) (fun x hx => takenN_get G n x hx) hn
  refine ⟨fun h => ?_, h2⟩
  obtain ⟨i1, i2, i3, _⟩ := h1 h
  refine Prod.ext ?_ i1
  apply List.ext_getElem?
  intro x
  by_cases hx : x < G.n
  · have e1 := i3 x hx
    have e2 := takenN_get G (n + 1) x hx
    rw [get_of_lt 0 (by omega), get_of_lt 0 (by rw [takenN_len]; exact hx), e1, e2]
  · rw [List.getElem?_eq_none (by omega), List.getElem?_eq_none (by rw [takenN_len]; omega)]
theorem dig_zero (b : Nat → Nat) : ∀ m x, dig b m 0 x = 0
  | 0, _ => rfl
  | m + 1, x => by show (if x = m then 0 % b m else dig b m (0 / b m) x) = 0; rw [Nat.zero_mod, Nat.zero_div, dig_zero b m x]; split <;> rfl
theorem taken_zero {G : Gr} (ok : G.Ok) : takenN G 0 = G.md := by
  apply List.ext_getElem?
  intro x
  by_cases hx : x < G.n
  · rw [get_of_lt 0 (by rw [takenN_len]; exact hx), takenN_get G 0 x hx, dig_zero, Nat.add_zero, get_of_lt 0 (by rw [ok.ml]; exact hx)]
  · rw [List.getElem?_eq_none (by rw [takenN_len]; omega), List.getElem?_eq_none (by rw [ok.ml]; omega)]
end Go.Proofs.Ytjmdibgncaljaaa
