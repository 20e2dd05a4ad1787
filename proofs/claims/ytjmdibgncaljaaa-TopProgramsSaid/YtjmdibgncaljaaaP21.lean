/- Programs (plain): the image that has a prefix of each line's stores is a crash image. Programs (plain): the words of the images. Programs (plain): bounds of the stores, the prefixes that are long enough, the words of a line. -/
import Derived.Test.YtjmdibgncaljaaaP17
namespace Go.Proofs.Ytjmdibgncaljaaa
/-- A line's words: the first k of its stores. -/
def lw (s : LSt) (l k : Nat) : List Nat := ((s.st l).take k).foldl Dev.setW (List.replicate 8 0)
theorem foldW_len (ps : List (Nat × Nat)) : ∀ ws : List Nat, (ps.foldl Dev.setW ws).length = ws.length := by
  induction ps with
  | nil => intro ws; rfl
  | cons p ps ih => intro ws; rw [List.foldl_cons, ih]; simp [Dev.setW]
theorem lw_len (s : LSt) (l k : Nat) : (lw s l k).length = 8 := by unfold lw; rw [foldW_len]; simp
/-- The lines: the first m have their prefixes, the others nothing. -/
def lns (s : LSt) (k : Nat → Nat) (m : Nat) : List Dev.Ln := (List.range 4).map fun l => ⟨if l < m then lw s l (k l) else List.replicate 8 0, [], 0⟩
theorem lns_get (s : LSt) (k : Nat → Nat) (m : Nat) {l : Nat} (h : l < 4) : (lns s k m)[l]? = some ⟨if l < m then lw s l (k l) else List.replicate 8 0, [], 0⟩ := by
  unfold lns; rw [List.getElem?_map, List.getElem?_range h]; rfl
theorem lns_len (s : LSt) (k : Nat → Nat) (m : Nat) : (lns s k m).length = 4 := by simp [lns]
theorem lns_8 (s : LSt) (k : Nat → Nat) (m : Nat) : ∀ l ∈ lns s k m, (Dev.Ln.base l).length = 8 := by
  intro l hl
  unfold lns at hl
  simp only [List.mem_map, List.mem_range] at hl
  obtain ⟨i, hi, rfl⟩ := hl
  show (if i < m then lw s i (k i) else List.replicate 8 0).length = 8
  split
  · exact lw_len s i _
  · simp
/-- The image after the first m lines. -/
def preW (s : LSt) (k : Nat → Nat) (m : Nat) : List Nat := (lns s k m).flatMap Dev.Ln.base
theorem preW_zero (s : LSt) (k : Nat → Nat) : preW s k 0 = List.replicate 32 0 := rfl
theorem preW_len (s : LSt) (k : Nat → Nat) (m : Nat) : (preW s k m).length = 32 := by unfold preW; rw [Dev.flat_len _ _ (lns_8 s k m), lns_len]
theorem preW_succ (s : LSt) (k : Nat → Nat) {m : Nat} (hm : m < 4) (hp : ∀ p ∈ s.st m, p.1 / 64 = m) : preW s k (m + 1) = ((s.st m).take (k m)).foldl Dev.setA (preW s k m) := by
  have h := Dev.persist_per (lns s k m) (lns_8 s k m) m (by rw [lns_len]; exact hm) ((s.st m).take (k m)) (fun p h => hp p (List.mem_of_mem_take h)) ⟨List.replicate 8 0, [], 0⟩ (by simp) ⟨lw s m (k m), [], 0⟩ rfl
  have e1 : (lns s k m).set m ⟨List.replicate 8 0, [], 0⟩ = lns s k m := by
    apply List.ext_getElem?
    intro l
    rw [List.getElem?_set]
    by_cases e : m = l
    · subst e; rw [if_pos rfl, if_pos (by rw [lns_len]; exact hm), lns_get s k m hm, if_neg (Nat.lt_irrefl m)]
    · rw [if_neg e]
  have e2 : (lns s k m).set m ⟨lw s m (k m), [], 0⟩ = lns s k (m + 1) := by
    apply List.ext_getElem?
    intro l
    rw [List.getElem?_set]
    by_cases e : m = l
    · subst e; rw [if_pos rfl, if_pos (by rw [lns_len]; exact hm), lns_get s k (m + 1) hm, if_pos (Nat.lt_succ_self m)]
    · rw [if_neg e]
      rcases Nat.lt_or_ge l 4 with h4 | h4
      · rw [lns_get s k m h4, lns_get s k (m + 1) h4]
        by_cases h5 : l < m
        · rw [if_pos h5, if_pos (by omega)]
        · rw [if_neg h5, if_neg (by omega)]
      · rw [List.getElem?_eq_none (by rw [lns_len]; exact h4), List.getElem?_eq_none (by rw [lns_len]; exact h4)]
  rw [e1, e2] at h
  exact h
theorem st_line {S : Rn} {s : LSt} (h : PI S s) (l : Nat) : ∀ p ∈ s.st l, p.1 / 64 = l := by
  intro p hp
  rw [← h.ws] at hp
  unfold lws at hp
  simpa using (List.mem_filter.1 hp).2
theorem le_len {R : Dev.Dv} {S : Rn} {s : LSt} {T : Nat} (hp : Pair R S) (h : PI S s) (hn : S.G.n = 4) {l : Nat} (hl : l < 4) (hd : S.G.md.getD l 0 ≤ S.G.ct.getD l 0) : s.le l ≤ (s.st l).length := by
  rw [← h.md l hl, ← h.ws, hp.cnt l (by omega)]; exact hd
/-- The words of a line of the device with some of its stores. -/
theorem words_lw {R : Dev.Dv} {S : Rn} {s : LSt} (hp : Pair R S) (h : PI S s) (hn : S.G.n = 4) {l : Nat} (hl : l < 4) (k : Nat) : Dev.wordsL (R.line l) k = lw s l (s.le l + k) := by
  rw [hp.words (by omega) k, h.md l hl, h.ws]; rfl
theorem pre_crash {R : Dev.Dv} {S : Rn} {s : LSt} (hp : Pair R S) (h : PI S s) (hn : S.G.n = 4) (k : Nat → Nat) (hk : ∀ l, l < 4 → s.le l ≤ k l) : preW s k 4 = Dev.crashW R (fun l => k l - s.le l) := by
  unfold preW Dev.crashW Dev.crashLs lns
  rw [hp.n, hn]
  congr 1
  apply List.map_congr_left
  intro l hl
  have h4 : l < 4 := by simpa using hl
  rw [if_pos h4, words_lw hp h hn h4, Nat.add_sub_cancel' (hk l h4)]
end Go.Proofs.Ytjmdibgncaljaaa

namespace Go.Proofs.Ytjmdibgncaljaaa
theorem fold_word {n : Nat} (hn : n < 4) : ∀ ps : List (Nat × Nat), (∀ p ∈ ps, p.1 / 64 = n) → ∀ ws wl : List Nat, ws.length = 32 → wl.length = 8 → (∀ j, j < 8 → ws.getD (8 * n + j) 0 = wl.getD j 0) →
    ∀ j, j < 8 → (ps.foldl Dev.setA ws).getD (8 * n + j) 0 = (ps.foldl Dev.setW wl).getD j 0
  | [], _, _, _, _, _, h, j, hj => h j hj
  | p :: ps, hp, ws, wl, h1, h2, h, j, hj => by
    rw [List.foldl_cons, List.foldl_cons]
    have hpn := hp p (List.mem_cons_self ..)
    have e : p.1 / 8 = 8 * n + p.1 % 64 / 8 := by omega
    refine fold_word hn ps (fun q hq => hp q (List.mem_cons_of_mem _ hq)) _ _ (by simp [Dev.setA, h1]) (by simp [Dev.setW, h2]) (fun i hi => ?_) j hj
    unfold Dev.setA Dev.setW
    rw [Dev.getD_set ws _ _ _ _ (by omega), Dev.getD_set wl _ _ _ _ (by omega), e]
    by_cases hi2 : i = p.1 % 64 / 8
    · rw [if_pos (by omega), if_pos hi2]
    · rw [if_neg (by omega), if_neg hi2]; exact h i hi
/-- The words of a line when one line alone has stores. -/
theorem put_word (s : LSt) {n : Nat} (hn : n < 4) (hp : ∀ p ∈ s.st n, p.1 / 64 = n) (k : Nat) {j : Nat} (hj : j < 8) : (((s.st n).take k).foldl Dev.setA (List.replicate 32 0)).getD (8 * n + j) 0 = (lw s n k).getD j 0 :=
  fold_word hn _ (fun p h => hp p (List.mem_of_mem_take h)) _ _ (by simp) (by simp) (fun i hi => by rw [Dev.rep_getD 32 _ 0 0 (by omega), Dev.rep_getD 8 _ 0 0 hi]) j hj
theorem pre_word (s : LSt) (k : Nat → Nat) {n : Nat} (hn : n < 4) {j : Nat} (hj : j < 8) : (preW s k 4).getD (8 * n + j) 0 = (lw s n (k n)).getD j 0 := by
  have h := Dev.flat_get Dev.Ln.base (lns s k 4) (lns_8 s k 4) n j _ (lns_get s k 4 hn) hj
  rw [if_pos hn] at h
  unfold preW
  rw [List.getD, h]; rfl
/-- Every crash image of the device has, in each line, the words that a prefix of its stores makes. -/
theorem crash_word {R : Dev.Dv} {S : Rn} {s : LSt} (hp : Pair R S) (h : PI S s) (hn : S.G.n = 4) (kf : Nat → Nat) {n : Nat} (hn4 : n < 4) {j : Nat} (hj : j < 8) :
    (Dev.crashW R kf).getD (8 * n + j) 0 = (((s.st n).take (s.le n + kf n)).foldl Dev.setA (List.replicate 32 0)).getD (8 * n + j) 0 := by
  have e := pre_crash hp h hn (fun l => s.le l + kf l) (fun l _ => Nat.le_add_right _ _)
  have e2 : (fun l => s.le l + kf l - s.le l) = kf := by funext l; omega
  rw [e2] at e
  rw [← e, pre_word s _ hn4 hj, put_word s hn4 (st_line h n) _ hj]
end Go.Proofs.Ytjmdibgncaljaaa

namespace Go.Proofs.Ytjmdibgncaljaaa
def StF (s : LSt) : Prop := (∀ n, ∀ p ∈ s.st n, p.1 % 8 = 0 ∧ p.1 < 256 ∧ p.2 < 18446744073709551616) ∧ ∀ n, s.le n ≤ (s.st n).length ∧ s.no n ≤ (s.st n).length
theorem StF.step {s : LSt} (h : StF s) {x : In} (hx : x.Fit) : StF (lstep s x) := by
  obtain ⟨h1, h2⟩ := h
  unfold lstep LSt.store LSt.flush LSt.fence upd
  split
  · refine ⟨fun n p hp => ?_, fun n => ?_⟩
    · simp only at hp
      split at hp
      · rename_i e
        rcases List.mem_append.1 hp with hp | hp
        · exact h1 _ p hp
        · rw [List.mem_singleton.1 hp]; exact ⟨hx.al, hx.off, hx.v⟩
      · exact h1 n p hp
    · have := h2 n
      simp only
      split
      · rename_i e; subst e; simp only [List.length_append, List.length_singleton]; omega
      · exact this
  · split
    · refine ⟨h1, fun n => ?_⟩
      have := h2 n
      simp only
      split
      · rename_i e; subst e; omega
      · exact this
    · refine ⟨h1, fun n => ?_⟩
      have := h2 n
      simp only
      omega
theorem StF.fold (l : List In) : ∀ s : LSt, StF s → (∀ x ∈ l, x.Fit) → StF (l.foldl lstep s) := by
  induction l with
  | nil => intro s h _; exact h
  | cons x l ih => intro s h hf; exact ih _ (h.step (hf x (by simp))) (fun y hy => hf y (by simp [hy]))
theorem StF.init : StF lst0 := ⟨fun n p hp => (by cases hp), fun n => ⟨Nat.le_refl _, Nat.le_refl _⟩⟩
theorem hist_st {R : Dev.Dv} {S : Rn} {s : LSt} (hp : Pair R S) (h : PI S s) (hn : S.G.n = 4) {n : Nat} (hn4 : n < 4) (hl : s.le n ≤ (s.st n).length) : s.le n + (R.line n).hist.length = (s.st n).length := by
  have h1 := hp.hlen (l := n) (by omega)
  have h2 := hp.cnt n (by omega)
  rw [h.ws] at h2
  have h3 := h.md n hn4
  omega
/-- How many stores of a line the law picks. -/
def pickF (s : LSt) (pk : List Nat) (n : Nat) : Nat := if n < pk.length then s.le n + pk.getD n 0 % ((s.st n).length - s.le n + 1) else s.le n
theorem pickF_le {s : LSt} (pk : List Nat) {n : Nat} (h : s.le n ≤ (s.st n).length) : s.le n ≤ pickF s pk n ∧ pickF s pk n ≤ (s.st n).length := by
  unfold pickF
  split
  · have := Nat.mod_lt (pk.getD n 0) (show 0 < (s.st n).length - s.le n + 1 by omega)
    omega
  · omega
/-- The law's image of a line's first k stores. -/
def putK (s : LSt) (n k : Nat) : List Nat := ((s.st n).take k).foldl Dev.setA (List.replicate 32 0)
theorem putK_len (s : LSt) (n k : Nat) : (putK s n k).length = 32 := by unfold putK; rw [foldA_len]; simp
theorem setA_lt {ws : List Nat} {p : Nat × Nat} (h : ∀ x ∈ ws, x < 18446744073709551616) (hp : p.2 < 18446744073709551616) : ∀ x ∈ Dev.setA ws p, x < 18446744073709551616 := by
  intro x hx
  unfold Dev.setA at hx
  rcases List.mem_or_eq_of_mem_set hx with h1 | h1
  · exact h x h1
  · rw [h1]; exact hp
theorem foldA_lt (l : List (Nat × Nat)) : ∀ ws : List Nat, (∀ x ∈ ws, x < 18446744073709551616) → (∀ p ∈ l, p.2 < 18446744073709551616) → ∀ x ∈ l.foldl Dev.setA ws, x < 18446744073709551616 := by
  induction l with
  | nil => intro ws h _; exact h
  | cons p l ih => intro ws h hp; exact ih _ (setA_lt h (hp p (by simp))) (fun q hq => hp q (by simp [hq]))
theorem putK_lt {s : LSt} (h : StF s) (n k : Nat) : ∀ x ∈ putK s n k, x < 18446744073709551616 :=
  foldA_lt _ _ (fun x hx => by rw [List.eq_of_mem_replicate hx]; decide) (fun p hp => (h.1 n p (List.mem_of_mem_take hp)).2.2)
/-- The first j words of a line are those of the first k stores. -/
def okW (s : LSt) (n k : Nat) (ws : List Nat) (j : Nat) : Bool := (List.range j).all fun i => decide ((putK s n k).getD (8 * n + i) 0 = ws.getD (8 * n + i) 0)
theorem okW_succ (s : LSt) (n k : Nat) (ws : List Nat) (j : Nat) : okW s n k ws (j + 1) = (okW s n k ws j && decide ((putK s n k).getD (8 * n + j) 0 = ws.getD (8 * n + j) 0)) := by
  unfold okW; rw [List.range_succ, List.all_append]; simp
theorem okW_hit {R : Dev.Dv} {S : Rn} {s : LSt} (hp : Pair R S) (h : PI S s) (hn : S.G.n = 4) (kf : Nat → Nat) {n : Nat} (hn4 : n < 4) : okW s n (s.le n + kf n) (Dev.crashW R kf) 8 = true := by
  unfold okW
  rw [List.all_eq_true]
  intro i hi
  have hi := List.mem_range.1 hi
  exact decide_eq_true (crash_word hp h hn kf hn4 hi).symm
theorem preW_lt {s : LSt} (h : StF s) (k : Nat → Nat) : ∀ m, m ≤ 4 → (∀ n, n < 4 → ∀ p ∈ s.st n, p.1 / 64 = n) → ∀ x ∈ preW s k m, x < 18446744073709551616 := by
  intro m
  induction m with
  | zero => intro _ _ x hx; rw [preW_zero] at hx; rw [List.eq_of_mem_replicate hx]; decide
  | succ m ih =>
    intro hm hp
    rw [preW_succ s k (by omega) (hp m (by omega))]
    exact foldA_lt _ _ (ih (by omega) hp) (fun p hp' => (h.1 m p (List.mem_of_mem_take hp')).2.2)
end Go.Proofs.Ytjmdibgncaljaaa
