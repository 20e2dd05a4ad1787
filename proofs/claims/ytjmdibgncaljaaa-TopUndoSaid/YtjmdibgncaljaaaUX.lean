/- Plain: the rounds of the law. -/
import Derived.Test.YtjmdibgncaljaaaUW
namespace Go.Proofs.Ytjmdibgncaljaaa
open Go.RowKit Dev
theorem freshO_not : ∀ (l : List Nat) (K : List Nat) (o : Nat), o ∈ freshO K l → o ∉ K
  | [], _, _, h => by cases h
  | x :: l, K, o, h => by
    by_cases hx : x ∈ K
    · rw [freshO_cons_in hx] at h; exact freshO_not l K o h
    · rw [freshO_cons_out hx] at h
      rcases List.mem_cons.1 h with rfl | h
      · exact hx
      · exact fun hk => freshO_not l _ o h (List.mem_append_left _ hk)
section
variable {R : Dv} {old : Nat → Nat} {E : List (Nat × Nat)} {T : Nat}
theorem und_fresh (h : Und R old E E.length [E.length]) {offs : List Nat} (ho : ∀ o ∈ offs, okOff o = true) : ∀ e ∈ freshF R E offs, okOff e.1 = true ∧ e.2 = old e.1 := by
  intro e he
  unfold freshF at he
  obtain ⟨o, hm, rfl⟩ := List.mem_map.1 he
  have h1 := ho o (freshO_mem _ _ _ hm)
  have h2 := okOff_iff.1 h1
  have h3 := freshO_not _ _ _ hm
  have h4 := (h.dat o h2.1 h2.2.1 h2.2.2 (by rw [List.take_length]; exact h3)).cur
  exact ⟨h1, List.mem_singleton.1 h4⟩
theorem freshF_len (R : Dv) (E : List (Nat × Nat)) (offs : List Nat) : (freshF R E offs).length ≤ offs.length := by unfold freshF; rw [List.length_map]; exact freshO_len _ _
/-- All that is asked for is saved behind the save. -/
theorem fresh_all (R : Dv) (E : List (Nat × Nat)) (offs : List Nat) : ∀ o ∈ offs, o ∈ (E ++ freshF R E offs).map Prod.fst := by
  intro o ho
  rw [List.map_append, List.mem_append]
  rcases freshO_cov offs (E.map Prod.fst) o ho with h | h
  · exact .inl h
  · right
    unfold freshF
    rw [List.map_map]
    exact List.mem_map.2 ⟨o, h, rfl⟩
theorem allOk_und {nl : Nat → Nat} (h : UndA old R) (ho : Ok10 R) (hok : R.Ok T) : AllOk R (wordsF old) (wordsF nl) true false :=
  allOk_mk ho hok (h.recd hok nl) (fun kf hk => ComA.alw (new := nl) (.inl h) hok hk)
theorem allOk_com {new : Nat → Nat} (h : ComA old new R) (ho : Ok10 R) (hok : R.Ok T) : AllOk R (wordsF old) (wordsF new) true true :=
  allOk_mk ho hok (h.recd hok) (fun kf hk => h.alw hok hk)
theorem allOk_new {new : Nat → Nat} (h : UndA new R) (ho : Ok10 R) (hok : R.Ok T) : AllOk R (wordsF old) (wordsF new) false true :=
  allOk_mk ho hok (fun kf hk => .inr ⟨rfl, by
    rcases h.recd hok new kf hk with g | g
    · exact g.2
    · exact g.2⟩) (fun kf hk => ComA.alw (new := new) (.inl h) hok hk)
theorem fit_sav {F : List (Nat × Nat)} {fl : List Nat} (h8 : E.length + F.length ≤ 8) (hF : ∀ e ∈ F, okOff e.1 = true ∧ e.2 < 18446744073709551616) (hfl : ∀ y, y ∈ fl ↔ y ∈ (entW E.length F).map fun p => p.1 / 64 * 64) : ∀ x ∈ savL E F fl, FitT x := by
  have hW : ∀ (F : List (Nat × Nat)) (n : Nat), n + F.length ≤ 8 → (∀ e ∈ F, okOff e.1 = true ∧ e.2 < 18446744073709551616) → ∀ p ∈ entW n F, p.1 % 8 = 0 ∧ p.1 < 640 ∧ p.2 < 18446744073709551616 := by
    intro F
    induction F with
    | nil => intro n _ _ p hp; cases hp
    | cons e F ih =>
      intro n hn hF p hp
      simp only [List.length_cons] at hn
      unfold entW at hp
      obtain ⟨g1, g2⟩ := hF e (List.mem_cons_self ..)
      have g3 := okOff_iff.1 g1
      simp only [List.mem_cons] at hp
      rcases hp with rfl | rfl | hp
      · simp only; omega
      · simp only; omega
      · exact ih (n + 1) (by omega) (fun x hx => hF x (List.mem_cons_of_mem _ hx)) p hp
  have hW1 := hW F E.length h8 hF
  intro x hx
  unfold savL at hx
  rcases List.mem_append.1 hx with hx | hx
  · refine fit_stores hW1 (fun y hy => ?_) x hx
    obtain ⟨p, hp, rfl⟩ := List.mem_map.1 ((hfl y).1 hy)
    have := hW1 p hp
    omega
  · exact fit_stores (S := [(0, E.length + F.length)]) (fl := [0]) (by intro p hp; rw [List.mem_singleton.1 hp]; exact ⟨rfl, by show 0 < 640; decide, by show E.length + F.length < _; omega⟩) (by intro p hp; rw [List.mem_singleton.1 hp]; decide) x hx
theorem fit_com {fl : List Nat} (hE : ∀ e ∈ E, okOff e.1 = true) (hfl : ∀ y, y ∈ fl ↔ y ∈ E.map fun p => p.1 / 64 * 64) : ∀ x ∈ comL fl, FitT x := by
  have hf : ∀ y ∈ fl, y % 8 = 0 ∧ y < 640 := fun y hy => by
    obtain ⟨p, hp, rfl⟩ := List.mem_map.1 ((hfl y).1 hy)
    have := okOff_iff.1 (hE p hp)
    omega
  intro x hx
  unfold comL at hx
  rcases List.mem_append.1 hx with hx | hx
  · exact fit_stores (S := []) (fl := fl) (by intro p hp; cases hp) hf x (by unfold storesI; simpa using hx)
  · exact fit_stores (S := [(0, 0)]) (fl := [0]) (by intro p hp; rw [List.mem_singleton.1 hp]; decide) (by intro p hp; rw [List.mem_singleton.1 hp]; decide) x hx
theorem fit_data {ws : List (Nat × Nat)} (hw : ∀ p ∈ ws, okOff p.1 = true ∧ p.2 < 18446744073709551616) : ∀ x ∈ ws.map stI, FitT x := by
  intro x hx
  obtain ⟨p, hp, rfl⟩ := List.mem_map.1 hx
  obtain ⟨h1, h2⟩ := hw p hp
  have h3 := okOff_iff.1 h1
  exact ⟨⟨by show 1 ≤ 1 ∧ 1 ≤ 3; decide, Nat.lt_trans h3.2.2 (by decide), h3.1, h2⟩, h3.2.2⟩
theorem entW_cov {n : Nat} {F : List (Nat × Nat)} {fl : List Nat} (hfl : ∀ y, y ∈ fl ↔ y ∈ (entW n F).map fun p => p.1 / 64 * 64) : ∀ p ∈ entW n F, p.1 / 64 ∈ fl.map (· / 64) := fun p hp =>
  List.mem_map.2 ⟨p.1 / 64 * 64, (hfl _).2 (List.mem_map.2 ⟨p, hp, rfl⟩), by show p.1 / 64 * 64 / 64 = p.1 / 64; omega⟩
end
theorem wordsF_set (f : Nat → Nat) {o : Nat} (v : Nat) (ho : okOff o = true) : (wordsF f).set (o / 8 - 24) v = wordsF (fun x => if x = o then v else f x) := by
  obtain ⟨h1, h2, h3⟩ := okOff_iff.1 ho
  apply List.ext_getElem?
  intro i
  rw [List.getElem?_set]
  by_cases hi : o / 8 - 24 = i
  · rw [if_pos hi]
    subst hi
    rw [if_pos (by rw [wordsF_len]; omega)]
    unfold wordsF
    rw [List.getElem?_map, List.getElem?_range (by omega)]
    simp only [Option.map_some]
    rw [if_pos (by omega)]
  · rw [if_neg hi]
    unfold wordsF
    rw [List.getElem?_map, List.getElem?_map]
    rcases Nat.lt_or_ge i 56 with g | g
    · rw [List.getElem?_range g]
      simp only [Option.map_some]
      rw [if_neg (by omega)]
    · rw [List.getElem?_eq_none (by simpa using g)]; rfl
theorem wordsF_congr {f g : Nat → Nat} (h : ∀ o, o % 8 = 0 → 192 ≤ o → o < 640 → f o = g o) : wordsF f = wordsF g := by
  unfold wordsF
  apply List.map_congr_left
  intro i hi
  rw [List.mem_range] at hi
  exact h _ (by omega) (by omega) (by omega)
end Go.Proofs.Ytjmdibgncaljaaa
