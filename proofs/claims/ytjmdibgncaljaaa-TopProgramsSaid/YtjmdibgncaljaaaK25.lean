/- crashset, plain: the least prefixes of the lines that make an image, and the number that they spell. -/
import Derived.Test.YtjmdibgncaljaaaK6
import Derived.Test.YtjmdibgncaljaaaP3
namespace Go.Proofs.Ytjmdibgncaljaaa.Dev
open Go.RowKit
variable {R : Dv} {T : Nat}

def lineW (ws : List Nat) (i : Nat) : List Nat := (ws.drop (8 * i)).take 8
def leastL (l : Ln) (ws : List Nat) : Option Nat := (List.range (l.hist.length + 1)).find? fun k => decide (wordsL l k = ws)
def leastK (l : Ln) (ws : List Nat) : Nat := (leastL l ws).getD 0
def leastI (l : Ln) (ws : List Nat) : Int := match leastL l ws with
  | some k => (k : Int)
  | none => -1
theorem range_find (p : Nat → Bool) (n k : Nat) (hk : k < n) (hp : p k = true) (hj : ∀ j, j < k → p j = false) : (List.range n).find? p = some k := by
  induction n generalizing k with
  | zero => omega
  | succ n ih =>
    rw [List.range_succ, List.find?_append]
    by_cases h : k < n
    · rw [ih k h hp hj]; rfl
    · obtain rfl : k = n := by omega
      have : (List.range k).find? p = none := by
        rw [List.find?_eq_none]
        intro x hx
        rw [hj x (List.mem_range.1 hx)]; simp
      rw [this]
      simp [hp]
theorem least_some {l : Ln} {ws : List Nat} {k : Nat} (hk : k ≤ l.hist.length) (hj : ∀ j, j < k → wordsL l j ≠ ws) (he : wordsL l k = ws) : leastL l ws = some k :=
  range_find _ _ _ (by omega) (decide_eq_true he) (fun j h => decide_eq_false (hj j h))
theorem least_none {l : Ln} {ws : List Nat} (hj : ∀ j, j ≤ l.hist.length → wordsL l j ≠ ws) : leastL l ws = none := by
  unfold leastL
  rw [List.find?_eq_none]
  intro x hx
  have := hj x (by have := List.mem_range.1 hx; omega)
  simp [this]
theorem least_spec {l : Ln} {ws : List Nat} {k : Nat} (h : leastL l ws = some k) : k ≤ l.hist.length ∧ wordsL l k = ws := by
  unfold leastL at h
  have h1 := List.mem_of_find?_eq_some h
  have h2 := List.find?_some h
  exact ⟨by have := List.mem_range.1 h1; omega, of_decide_eq_true h2⟩
theorem least_has {l : Ln} {ws : List Nat} {k : Nat} (hk : k ≤ l.hist.length) (he : wordsL l k = ws) : (leastL l ws).isSome = true := by
  unfold leastL
  rw [List.find?_isSome]
  exact ⟨k, List.mem_range.2 (by omega), decide_eq_true he⟩
theorem leastI_some {l : Ln} {ws : List Nat} {k : Nat} (h : leastL l ws = some k) : leastI l ws = (k : Int) ∧ leastK l ws = k := by
  unfold leastI leastK; rw [h]; exact ⟨rfl, rfl⟩
theorem leastI_none {l : Ln} {ws : List Nat} (h : leastL l ws = none) : leastI l ws = -1 := by
  unfold leastI; rw [h]
theorem leastK_le (l : Ln) (ws : List Nat) : leastK l ws ≤ l.hist.length := by
  unfold leastK
  cases h : leastL l ws with
  | none => exact Nat.zero_le _
  | some k => exact (least_spec h).1

/-- The lines below n all have a prefix. -/
def possTo (R : Dv) (ws : List Nat) (n : Nat) : Bool := (List.range n).all fun i => (leastL (R.line i) (lineW ws i)).isSome
def possB (R : Dv) (ws : List Nat) : Bool := decide (ws.length = R.lines.length * 8) && possTo R ws R.lines.length
theorem possTo_succ (R : Dv) (ws : List Nat) (n : Nat) : possTo R ws (n + 1) = (possTo R ws n && (leastL (R.line n) (lineW ws n)).isSome) := by
  unfold possTo; rw [List.range_succ, List.all_append]; simp
theorem possTo_false {R : Dv} {ws : List Nat} {n m : Nat} (hn : n < m) (h : leastL (R.line n) (lineW ws n) = none) : possTo R ws m = false := by
  unfold possTo
  rw [List.all_eq_false]
  exact ⟨n, List.mem_range.2 hn, by rw [h]; simp⟩
theorem possTo_at {R : Dv} {ws : List Nat} {n m : Nat} (hn : n < m) (h : possTo R ws m = true) : ∃ k, leastL (R.line n) (lineW ws n) = some k := by
  unfold possTo at h
  rw [List.all_eq_true] at h
  exact Option.isSome_iff_exists.1 (h n (List.mem_range.2 hn))
def leastR (R : Dv) (ws : List Nat) (l : Nat) : Nat := leastK (R.line l) (lineW ws l)
def ksTo (R : Dv) (ws : List Nat) (n : Nat) : List Nat := (dirtyTo R n).map (leastR R ws)
def ksL (R : Dv) (ws : List Nat) : List Nat := ksTo R ws R.lines.length
theorem ksTo_len (R : Dv) (ws : List Nat) (n : Nat) : (ksTo R ws n).length = (dirtyTo R n).length := by simp [ksTo]
theorem ksTo_succ (R : Dv) (ws : List Nat) (n : Nat) : ksTo R ws (n + 1) = if 0 < (R.line n).hist.length then ksTo R ws n ++ [leastR R ws n] else ksTo R ws n := by
  unfold ksTo; rw [dirtyTo_succ]; split <;> simp
theorem lineW_len {ws : List Nat} {i n : Nat} (h : ws.length = n * 8) (hi : i < n) : (lineW ws i).length = 8 := by
  unfold lineW; rw [List.length_take, List.length_drop]; omega
/-- Every crash image is possible. -/
theorem poss_crash (hok : R.Ok T) (kf : Nat → Nat) (hk : ∀ l, l < R.lines.length → kf l ≤ (R.line l).hist.length) : possB R (crashW R kf) = true := by
  unfold possB
  rw [decide_eq_true (crashW_len hok kf), Bool.true_and]
  unfold possTo
  rw [List.all_eq_true]
  intro i hi
  have hi := List.mem_range.1 hi
  refine least_has (hk i hi) ?_
  unfold lineW
  have := crash_line hok kf i hi
  exact this.symm
theorem line_ext {n : Nat} {xs ys : List Nat} (ha : xs.length = n * 8) (hb : ys.length = n * 8) (h : ∀ i, i < n → lineW xs i = lineW ys i) : xs = ys := by
  apply List.ext_getElem?
  intro j
  by_cases hj : j < n * 8
  · have := congrArg (fun l => l[j % 8]?) (h (j / 8) (by omega))
    simp only [lineW, List.getElem?_take, List.getElem?_drop, if_pos (Nat.mod_lt j (by omega : 0 < 8))] at this
    rwa [show 8 * (j / 8) + j % 8 = j by omega] at this
  · rw [List.getElem?_eq_none (by omega), List.getElem?_eq_none (by omega)]
/-- An image that is possible is the one that its least prefixes make. -/
theorem crash_least (hok : R.Ok T) {ws : List Nat} (h : possB R ws = true) : crashW R (kOf R (ksL R ws)) = ws := by
  unfold possB at h
  rw [Bool.and_eq_true] at h
  have hl := of_decide_eq_true h.1
  refine line_ext (crashW_len hok _) hl (fun i hi => ?_)
  have h1 := crash_line hok (kOf R (ksL R ws)) i hi
  unfold lineW at *
  rw [h1]
  obtain ⟨k, hk⟩ := possTo_at hi h.2
  obtain ⟨h2, h3⟩ := least_spec hk
  unfold lineW at h3
  have hkk : kOf R (ksL R ws) i = k := by
    unfold kOf
    by_cases hd : 0 < (R.line i).hist.length
    · have hp := dirty_place hi hd
      have hlt := dirty_lt hi hd
      rw [if_pos hd, if_pos (by unfold ksL; rw [ksTo_len]; exact hlt)]
      refine getD_of 0 ?_
      unfold ksL ksTo
      rw [List.getElem?_map]
      unfold dirtyL at hp
      rw [hp]
      show some (leastR R ws i) = some k
      unfold leastR
      rw [(leastI_some hk).2]
    · rw [if_neg hd]; omega
  rw [hkk, h3]
/-- The number that digits spell. -/
def numTo (R : Dv) (ds : List Nat) (kf : Nat → Nat) : Nat := ds.foldl (fun t l => t * baseL R l + kf l) 0
theorem numTo_snoc (R : Dv) (ds : List Nat) (kf : Nat → Nat) (l : Nat) : numTo R (ds ++ [l]) kf = numTo R ds kf * baseL R l + kf l := by
  unfold numTo; rw [List.foldl_append]; rfl
theorem numTo_take (R : Dv) (ds : List Nat) (kf : Nat → Nat) (k : Nat) (h : k < ds.length) : numTo R (ds.take (k + 1)) kf = numTo R (ds.take k) kf * baseL R (ds.getD k 0) + kf (ds.getD k 0) := by
  rw [take_getD ds k 0 h, numTo_snoc]
theorem base_pos (R : Dv) (l : Nat) : 1 ≤ baseL R l := by unfold baseL; omega
theorem numTo_mono (R : Dv) (ds : List Nat) (kf : Nat → Nat) (k : Nat) : numTo R (ds.take k) kf ≤ numTo R ds kf := by
  by_cases hk : k < ds.length
  · have h1 := numTo_take R ds kf k hk
    have h2 := numTo_mono R ds kf (k + 1)
    have h3 : numTo R (ds.take k) kf ≤ numTo R (ds.take k) kf * baseL R (ds.getD k 0) := Nat.le_mul_of_pos_right _ (base_pos R _)
    omega
  · rw [List.take_of_length_le (by omega)]; exact Nat.le_refl _
termination_by ds.length - k
theorem numTo_lt (R : Dv) (ds : List Nat) (kf : Nat → Nat) (hk : ∀ l ∈ ds, kf l ≤ (R.line l).hist.length) : numTo R ds kf < prodL R ds := by
  have : ∀ n, n ≤ ds.length → numTo R (ds.take n) kf < prodL R (ds.take n) := by
    intro n
    induction n with
    | zero => intro _; simp [numTo, prodL]
    | succ n ih =>
      intro hn
      have h1 := ih (by omega)
      rw [numTo_take R ds kf n (by omega), prodL_take R ds n (by omega)]
      have h2 := hk _ (mem_getD 0 (show n < ds.length by omega))
      have h3 : (numTo R (ds.take n) kf + 1) * baseL R (ds.getD n 0) ≤ prodL R (ds.take n) * baseL R (ds.getD n 0) := Nat.mul_le_mul_right _ h1
      rw [Nat.add_mul, Nat.one_mul] at h3
      unfold baseL at *
      omega
  have h := this ds.length (Nat.le_refl _)
  rwa [List.take_length] at h
/-- Its digits are those digits. -/
theorem num_digits (R : Dv) (kf : Nat → Nat) : ∀ (ds : List Nat) (m : Nat), (∀ l ∈ ds, kf l ≤ (R.line l).hist.length) →
    restR R ds (ds.foldl (fun t l => t * baseL R l + kf l) m) = m ∧ digR R ds (ds.foldl (fun t l => t * baseL R l + kf l) m) = ds.map kf
  | [], m, _ => ⟨rfl, rfl⟩
  | l :: r, m, h => by
    obtain ⟨h1, h2⟩ := num_digits R kf r (m * baseL R l + kf l) (fun x hx => h x (List.mem_cons_of_mem _ hx))
    have hb : kf l < baseL R l := by have := h l (List.mem_cons_self ..); unfold baseL; omega
    simp only [List.foldl_cons, restR, digR, List.map_cons, h1, h2]
    rw [Nat.mul_comm m, Nat.mul_add_div (by omega), Nat.div_eq_of_lt hb, Nat.mul_add_mod, Nat.mod_eq_of_lt hb]
    exact ⟨rfl, rfl⟩
/-- The smallest number of an image. -/
def idxN (R : Dv) (ws : List Nat) : Nat := numTo R (dirtyL R) (leastR R ws)
def idxV (R : Dv) (ws : List Nat) : Nat × Bool := if possB R ws = true ∧ idxN R ws < 4611686018427387904 then (idxN R ws, true) else (0, false)
theorem leastR_le (R : Dv) (ws : List Nat) (l : Nat) : leastR R ws l ≤ (R.line l).hist.length := leastK_le _ _
theorem idx_lt (R : Dv) (ws : List Nat) : idxN R ws < prodL R (dirtyL R) := numTo_lt R _ _ (fun l _ => leastR_le R ws l)
theorem idx_at (hok : R.Ok T) {ws : List Nat} (h : possB R ws = true) : atB R (idxN R ws) = bytesL ws ∧ atOk R (idxN R ws) = true := by
  obtain ⟨h1, h2⟩ := num_digits R (leastR R ws) (dirtyL R) 0 (fun l _ => leastR_le R ws l)
  refine ⟨?_, ?_⟩
  · unfold atB idxN numTo
    rw [h2]
    have := crash_least hok h
    unfold ksL ksTo at this
    unfold dirtyL
    rw [this]
  · unfold atOk idxN numTo
    rw [h1]; rfl
end Go.Proofs.Ytjmdibgncaljaaa.Dev
