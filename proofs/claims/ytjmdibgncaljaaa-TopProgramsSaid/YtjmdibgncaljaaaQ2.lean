/- Which sets are cuts (plain). -/
import Derived.Test.YtjmdibgncaljaaaQ1
import Derived.Test.YtjmdibgncaljaaaO3
namespace Go.Proofs.Ytjmdibgncaljaaa

def inR (G : Gr) (set : List Int) : Prop := ∀ i ∈ set, 0 ≤ i ∧ i < (G.ws.length : Int)
def lineC (G : Gr) (set : List Int) (l : Nat) : Nat := (set.filter fun i => decide (G.line i.toNat = l)).length
def marked (G : Gr) (set : List Int) : Mk := ((List.range G.ws.length).map fun (i : Nat) => decide ((i : Int) ∈ set), (List.range G.n).map fun l => lineC G set l)
theorem marked_get1 (G : Gr) (set : List Int) (i : Nat) (h : i < G.ws.length) : (marked G set).1.getD i false = decide ((i : Int) ∈ set) := by
  unfold marked; rw [List.getD, List.getElem?_map, List.getElem?_range h]; rfl
theorem marked_get2 (G : Gr) (set : List Int) (l : Nat) (h : l < G.n) : (marked G set).2.getD l 0 = lineC G set l := by
  unfold marked; rw [List.getD, List.getElem?_map, List.getElem?_range h]; rfl
theorem lineC_snoc (G : Gr) (set : List Int) (i : Int) (l : Nat) : lineC G (set ++ [i]) l = lineC G set l + if G.line i.toNat = l then 1 else 0 := by
  unfold lineC
  rw [List.filter_append, List.length_append]
  by_cases h : G.line i.toNat = l <;> simp [h]
theorem marked_snoc {G : Gr} (ok : G.Ok) (set : List Int) (i : Int) (h0 : 0 ≤ i) (h1 : i < (G.ws.length : Int)) :
    marked G (set ++ [i]) = ((marked G set).1.set i.toNat true, (marked G set).2.set (G.line i.toNat) ((marked G set).2.getD (G.line i.toNat) 0 + 1)) := by
  have hl := (ok.line_lt (show i.toNat < G.ws.length by omega)).1
  rw [marked_get2 G set _ hl]
  unfold marked
  refine Prod.ext ?_ ?_
  · apply List.ext_getElem?
    intro j
    simp only [List.getElem?_set, List.getElem?_map, List.length_map, List.length_range]
    by_cases hj : j < G.ws.length
    · rw [List.getElem?_range hj]
      simp only [Option.map_some, List.mem_append, List.mem_singleton]
      by_cases hji : i.toNat = j
      · rw [if_pos hji, if_pos (by omega)]
        have : (j : Int) = i := by omega
        simp [this]
      · rw [if_neg hji]
        have : ¬ (j : Int) = i := by omega
        simp [this]
    · rw [List.getElem?_eq_none (by simp; omega)]
      simp; omega
  · apply List.ext_getElem?
    intro j
    simp only [List.getElem?_set, List.getElem?_map, List.length_map, List.length_range]
    by_cases hj : j < G.n
    · rw [List.getElem?_range hj]
      simp only [Option.map_some, lineC_snoc]
      by_cases hji : G.line i.toNat = j
      · rw [if_pos hji, hji, if_pos hj, if_pos rfl]
      · rw [if_neg hji, if_neg hji, Nat.add_zero]
    · rw [List.getElem?_eq_none (by simp; omega)]
      simp; omega
theorem marked_nil (G : Gr) : marked G [] = mark0 G := by
  unfold marked mark0
  refine Prod.ext ?_ ?_
  · apply List.ext_getElem?
    intro j
    simp only [List.getElem?_map, List.getElem?_replicate]
    by_cases hj : j < G.ws.length
    · rw [List.getElem?_range hj, if_pos hj]; simp
    · rw [List.getElem?_eq_none (by simp; omega), if_neg hj]; rfl
  · apply List.ext_getElem?
    intro j
    simp only [List.getElem?_map, List.getElem?_replicate]
    by_cases hj : j < G.n
    · rw [List.getElem?_range hj, if_pos hj]; simp [lineC]
    · rw [List.getElem?_eq_none (by simp; omega), if_neg hj]; rfl
theorem markAll_some {G : Gr} (ok : G.Ok) (set : List Int) : inR G set → set.Nodup → markAll G set (mark0 G) = some (marked G set) := by
  induction set using snoc_ind with
  | h0 => intro _ _; rw [marked_nil]; rfl
  | h1 set i ih =>
    intro hr hn
    have hr1 : inR G set := fun j hj => hr j (by simp [hj])
    obtain ⟨h0, h1⟩ := hr i (by simp)
    have hn1 := (List.nodup_append.1 hn)
    rw [markAll_snoc, ih hr1 hn1.1]
    simp only [Option.bind_some, markP]
    rw [if_pos ⟨h0, h1⟩, marked_get1 G set _ (by omega), if_neg, marked_snoc ok set i h0 h1]
    have : ((i.toNat : Nat) : Int) = i := by omega
    rw [this]
    simp only [decide_eq_true_eq]
    intro hm
    exact (hn1.2.2 i hm i (by simp)) rfl
theorem markAll_bad {G : Gr} (ok : G.Ok) (set : List Int) : ¬ (inR G set ∧ set.Nodup) → markAll G set (mark0 G) = none := by
  induction set using snoc_ind with
  | h0 => intro h; exact absurd ⟨(by intro i hi; cases hi), List.nodup_nil⟩ h
  | h1 set i ih =>
    intro h
    by_cases hg : inR G set ∧ set.Nodup
    · rw [markAll_snoc, markAll_some ok set hg.1 hg.2]
      simp only [Option.bind_some, markP]
      by_cases hi : 0 ≤ i ∧ i < (G.ws.length : Int)
      · rw [if_pos hi, marked_get1 G set _ (by omega), if_pos]
        have : ((i.toNat : Nat) : Int) = i := by omega
        rw [this, decide_eq_true_eq]
        by_cases hm : i ∈ set
        · exact hm
        · exfalso
          apply h
          refine ⟨fun j hj => ?_, ?_⟩
          · simp only [List.mem_append, List.mem_singleton] at hj
            rcases hj with hj | rfl
            · exact hg.1 j hj
            · exact hi
          · rw [List.nodup_append]
            refine ⟨hg.2, by simp, ?_⟩
            intro a ha b hb
            simp only [List.mem_singleton] at hb
            subst hb
            rintro rfl
            exact hm ha
      · rw [if_neg hi]
    · exact markAll_none G set [i] _ (ih hg)
/-- Exactly these sets are cuts. -/
def IsCut (G : Gr) (set : List Int) : Prop :=
  inR G set ∧ set.Nodup ∧ (∀ i : Nat, i < G.ws.length → ((i : Int) ∈ set ↔ G.rk.getD i 0 < lineC G set (G.line i))) ∧ ∀ l, l < G.n → G.md.getD l 0 ≤ lineC G set l
theorem nodup_lt : ∀ (n : Nat) (l : List Nat), l.Nodup → (∀ x ∈ l, x < n) → l.length ≤ n
  | 0, l, _, h => by
    cases l with
    | nil => exact Nat.le_refl _
    | cons a l => have := h a (by simp); omega
  | n + 1, l, hn, h => by
    by_cases hm : n ∈ l
    · have h1 := nodup_lt n (l.erase n) (hn.erase n) (fun x hx => by
        rw [hn.mem_erase_iff] at hx
        have := h x hx.2
        have := hx.1
        omega)
      rw [List.length_erase_of_mem hm] at h1
      omega
    · have h1 := nodup_lt n l hn (fun x hx => by
        have h2 := h x hx
        have : x ≠ n := fun e => hm (e ▸ hx)
        omega)
      omega
theorem nodup_le (G : Gr) (set : List Int) (hr : inR G set) (hn : set.Nodup) : set.length ≤ G.ws.length := by
  have h1 : (set.map Int.toNat).Nodup := by
    rw [List.nodup_iff_pairwise_ne] at *
    rw [List.pairwise_map]
    refine List.Pairwise.imp_of_mem ?_ hn
    intro a b ha hb hab e
    have := hr a ha
    have := hr b hb
    omega
  have h3 := nodup_lt G.ws.length _ h1 (fun x hx => by
    rw [List.mem_map] at hx
    obtain ⟨a, ha, rfl⟩ := hx
    have := hr a ha
    omega)
  simpa using h3
theorem closed_iff {G : Gr} (ok : G.Ok) (set : List Int) : closedP G set = true ↔ IsCut G set := by
  unfold closedP IsCut
  by_cases hg : inR G set ∧ set.Nodup
  · have hle := nodup_le G set hg.1 hg.2
    rw [markAll_some ok set hg.1 hg.2, decide_eq_true hle, Bool.true_and, Bool.and_eq_true]
    unfold tail1 tail2
    simp only [List.all_eq_true, List.mem_range, beq_iff_eq, decide_eq_true_eq]
    constructor
    · rintro ⟨a, b⟩
      refine ⟨hg.1, hg.2, fun i hi => ?_, fun l hl => ?_⟩
      · have := a i hi
        rw [marked_get1 G set i hi, marked_get2 G set _ (ok.line_lt hi).1] at this
        exact decide_eq_decide.1 this
      · have := b l hl
        rwa [marked_get2 G set l hl] at this
    · rintro ⟨_, _, a, b⟩
      refine ⟨fun i hi => ?_, fun l hl => ?_⟩
      · rw [marked_get1 G set i hi, marked_get2 G set _ (ok.line_lt hi).1]
        exact decide_eq_decide.2 (a i hi)
      · rw [marked_get2 G set l hl]; exact b l hl
  · rw [markAll_bad ok set hg, Bool.and_false]
    constructor
    · intro h; cases h
    · intro h; exact absurd ⟨h.1, h.2.1⟩ hg

def natsI (l : List Nat) : List Int := l.map fun (n : Nat) => (n : Int)
theorem mem_natsI (l : List Nat) (i : Nat) : (i : Int) ∈ natsI l ↔ i ∈ l := by
  unfold natsI
  rw [List.mem_map]
  constructor
  · rintro ⟨a, ha, e⟩
    have : a = i := by omega
    exact this ▸ ha
  · intro h; exact ⟨i, h, rfl⟩
theorem lineC_nats (G : Gr) (l : List Nat) (k : Nat) : lineC G (natsI l) k = (l.filter fun i => decide (G.line i = k)).length := by
  unfold lineC natsI
  rw [List.filter_map, List.length_map]
  rfl
theorem cutK_line {G : Gr} (hc : G.Count) (taken : List Nat) (l : Nat) : ∀ k, k ≤ G.ws.length → ((cutK G taken k).filter fun i => decide (G.line i = l)).length = min (cntL G.ws k l) (taken.getD l 0)
  | 0, _ => by simp [cutK, cntL]
  | k + 1, hk => by
    have ih := cutK_line hc taken l k (by omega)
    rw [cutK_succ, List.filter_append, List.length_append, ih, cntL_succ _ _ _ (by omega), hc.rank k (by omega)]
    have hl : G.line k = (G.ws.getD k (0, 0)).1 / 64 := rfl
    rw [← hl]
    by_cases hL : G.line k = l
    · rw [hL]
      generalize cntL G.ws k l = c at *
      generalize taken.getD l 0 = t at *
      by_cases hct : c < t
      · rw [if_pos hct]; simp [hL]; omega
      · rw [if_neg hct]; simp; omega
    · rw [if_neg hL, Nat.add_zero]
      split
      · simp [hL]
      · simp
theorem cutL_nodup (G : Gr) (taken : List Nat) : (natsI (cutL G taken)).Nodup := by
  have h : (cutL G taken).Nodup := by unfold cutL cutK; exact List.Pairwise.filter _ List.nodup_range
  unfold natsI
  rw [List.nodup_iff_pairwise_ne] at *
  rw [List.pairwise_map]
  refine List.Pairwise.imp ?_ h
  intro a b hab e
  omega
theorem mem_cutL (G : Gr) (taken : List Nat) (i : Nat) : i ∈ cutL G taken ↔ i < G.ws.length ∧ G.rk.getD i 0 < taken.getD (G.line i) 0 := by
  unfold cutL cutK
  rw [List.mem_filter, List.mem_range, decide_eq_true_eq]
theorem cut_closed {G : Gr} (ok : G.Ok) (hc : G.Count) (taken : List Nat) (h1 : ∀ l, l < G.n → G.md.getD l 0 ≤ taken.getD l 0) (h2 : ∀ l, l < G.n → taken.getD l 0 ≤ G.ct.getD l 0) : closedP G (natsI (cutL G taken)) = true := by
  rw [closed_iff ok]
  have hline : ∀ l, l < G.n → lineC G (natsI (cutL G taken)) l = taken.getD l 0 := by
    intro l hl
    rw [lineC_nats]
    unfold cutL
    rw [cutK_line hc taken l _ (Nat.le_refl _), ← hc.count l hl]
    have := h2 l hl
    omega
  refine ⟨?_, cutL_nodup G taken, ?_, ?_⟩
  · intro i hi
    unfold natsI at hi
    rw [List.mem_map] at hi
    obtain ⟨a, ha, rfl⟩ := hi
    have := ((mem_cutL G taken a).1 ha).1
    omega
  · intro i hi
    rw [mem_natsI, mem_cutL, hline _ (ok.line_lt hi).1]
    exact ⟨fun h => h.2, fun h => ⟨hi, h⟩⟩
  · intro l hl
    rw [hline l hl]; exact h1 l hl

/-- The numbers of the mandatory stores. -/
def mandK (l : List RSt) (k : Nat) : List Nat := (List.range k).filter fun i => (l.getD i RSt.zero).mand
theorem mandK_succ (l : List RSt) (k : Nat) : mandK l (k + 1) = mandK l k ++ if (l.getD k RSt.zero).mand = true then [k] else [] := by
  unfold mandK
  rw [List.range_succ, List.filter_append]
  congr 1
  by_cases h : (l.getD k RSt.zero).mand = true
  · rw [if_pos h, List.filter_cons, if_pos h]; rfl
  · rw [if_neg h, List.filter_cons, if_neg h]; rfl
theorem mandK_le (l : List RSt) (k : Nat) : (mandK l k).length ≤ k := by
  unfold mandK; have := List.length_filter_le (fun i => (l.getD i RSt.zero).mand) (List.range k); simpa using this
theorem mand_stf (G : Gr) : mandK (stf G) G.ws.length = cutL G G.md := by
  unfold mandK cutL cutK
  apply List.filter_congr
  intro i hi
  rw [List.mem_range] at hi
  rw [stf_getD G i hi]; rfl
end Go.Proofs.Ytjmdibgncaljaaa
