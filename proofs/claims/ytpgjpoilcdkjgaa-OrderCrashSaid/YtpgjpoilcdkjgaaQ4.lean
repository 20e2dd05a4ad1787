/- A set is a cut exactly if it holds the mandatory stores and all stores before its own (plain). -/
import Derived.Test.YtpgjpoilcdkjgaaQ2
import Derived.Test.YtpgjpoilcdkjgaaO2
namespace Go.Proofs.Ytpgjpoilcdkjgaa

theorem nodup_sub : ∀ (l m : List Nat), l.Nodup → (∀ x ∈ l, x ∈ m) → l.length ≤ m.length
  | [], m, _, _ => Nat.zero_le _
  | a :: l, m, hn, h => by
    rw [List.nodup_cons] at hn
    have ha := h a (by simp)
    have h1 := nodup_sub l (m.erase a) hn.2 (fun x hx => by
      have hxm := h x (by simp [hx])
      have hne : x ≠ a := fun e => hn.1 (e ▸ hx)
      exact (List.mem_erase_of_ne hne).2 hxm)
    rw [List.length_erase_of_mem ha] at h1
    have : 0 < m.length := List.length_pos_of_mem ha
    simp only [List.length_cons]
    omega
/-- The members of a set in a line, as numbers. -/
def inLine (G : Gr) (set : List Int) (l : Nat) : List Nat := (set.filter fun i => decide (G.line i.toNat = l)).map Int.toNat
theorem inLine_len (G : Gr) (set : List Int) (l : Nat) : (inLine G set l).length = lineC G set l := by simp [inLine, lineC]
theorem inLine_nodup (G : Gr) (set : List Int) (l : Nat) (hr : inR G set) (hn : set.Nodup) : (inLine G set l).Nodup := by
  unfold inLine
  rw [List.nodup_iff_pairwise_ne, List.pairwise_map]
  have h1 : (set.filter fun i => decide (G.line i.toNat = l)).Nodup := List.Pairwise.filter _ hn
  rw [List.nodup_iff_pairwise_ne] at h1
  refine List.Pairwise.imp_of_mem ?_ h1
  intro a b ha hb hab e
  have := hr a (List.mem_filter.1 ha).1
  have := hr b (List.mem_filter.1 hb).1
  omega
theorem mem_inLine (G : Gr) (set : List Int) (l x : Nat) (hr : inR G set) : x ∈ inLine G set l ↔ (x : Int) ∈ set ∧ G.line x = l := by
  unfold inLine
  rw [List.mem_map]
  constructor
  · rintro ⟨a, ha, rfl⟩
    rw [List.mem_filter, decide_eq_true_eq] at ha
    have h0 := hr a ha.1
    have e : ((a.toNat : Nat) : Int) = a := by omega
    rw [e]; exact ⟨ha.1, ha.2⟩
  · rintro ⟨h1, h2⟩
    exact ⟨(x : Int), by rw [List.mem_filter, decide_eq_true_eq]; exact ⟨h1, by simpa using h2⟩, by simp⟩
/-- The stores of a line among the first k. -/
def lineK (G : Gr) (l k : Nat) : List Nat := (List.range k).filter fun i => decide (G.line i = l)
theorem lineK_len (G : Gr) (l : Nat) : ∀ k, k ≤ G.ws.length → (lineK G l k).length = cntL G.ws k l
  | 0, _ => by simp [lineK, cntL]
  | k + 1, hk => by
    have ih := lineK_len G l k (by omega)
    unfold lineK at *
    rw [List.range_succ, List.filter_append, List.length_append, ih, cntL_succ _ _ _ (by omega)]
    have hl : G.line k = (G.ws.getD k (0, 0)).1 / 64 := rfl
    rw [← hl]
    by_cases h : G.line k = l <;> simp [h]
theorem mem_lineK (G : Gr) (l k x : Nat) : x ∈ lineK G l k ↔ x < k ∧ G.line x = l := by
  unfold lineK; rw [List.mem_filter, List.mem_range, decide_eq_true_eq]
theorem lineK_nodup (G : Gr) (l k : Nat) : (lineK G l k).Nodup := List.Pairwise.filter _ List.nodup_range

theorem cut_must {G : Gr} (ok : G.Ok) {set : List Int} (h : IsCut G set) {i : Nat} (hi : i < G.ws.length) (hm : G.must i = true) : (i : Int) ∈ set := by
  obtain ⟨_, _, h3, h4⟩ := h
  rw [h3 i hi]
  unfold Gr.must at hm
  rw [decide_eq_true_eq] at hm
  have := h4 _ (ok.line_lt hi).1
  omega
theorem cut_down {G : Gr} (ok : G.Ok) (hc : G.Count) {set : List Int} (h : IsCut G set) {i j : Nat} (hi : i < G.ws.length) (hj : j < G.ws.length) (hjs : (j : Int) ∈ set) (hb : G.before (i : Int) (j : Int) = true) : (i : Int) ∈ set := by
  have h' := h
  obtain ⟨_, _, h3, h4⟩ := h
  unfold Gr.before at hb
  simp only [Bool.and_eq_true, Bool.or_eq_true, decide_eq_true_eq, Int.toNat_natCast] at hb
  rcases hb.2 with (hm | he) | ⟨hlt, hl⟩
  · exact cut_must ok h' hi hm
  · rw [he]; exact hjs
  · rw [h3 i hi]
    have := (h3 j hj).1 hjs
    rw [hc.rank j hj] at this
    rw [hc.rank i hi, hl]
    have := cntL_mono G.ws (G.line j) (show i ≤ j by omega)
    omega
theorem cut_of {G : Gr} (ok : G.Ok) (hc : G.Count) {set : List Int} (hr : inR G set) (hn : set.Nodup) (hd : ∀ i j : Nat, i < G.ws.length → (j : Int) ∈ set → G.before (i : Int) (j : Int) = true → (i : Int) ∈ set)
    (hm : ∀ i, i < G.ws.length → G.must i = true → (i : Int) ∈ set) : IsCut G set := by
  refine ⟨hr, hn, fun i hi => ?_, fun l hl => ?_⟩
  · rw [hc.rank i hi]
    have hlen := inLine_len G set (G.line i)
    have hnd := inLine_nodup G set (G.line i) hr hn
    have hlt : ∀ j : Nat, (j : Int) ∈ set → j < G.ws.length := fun j hj => by have := hr _ hj; omega
    have hdown : ∀ a b : Nat, a < b → G.line a = G.line b → (b : Int) ∈ set → (a : Int) ∈ set := by
      intro a b hab hl hb
      have hbl := hlt b hb
      refine hd a b (by omega) hb ?_
      unfold Gr.before
      rw [decide_eq_true (show 0 ≤ (a : Int) ∧ (a : Int) < G.ws.length by omega), decide_eq_true (show 0 ≤ (b : Int) ∧ (b : Int) < G.ws.length by omega)]
      simp [hl]; omega
    constructor
    · intro his
      have h1 := nodup_sub (lineK G (G.line i) (i + 1)) (inLine G set (G.line i)) (lineK_nodup _ _ _) (fun x hx => by
        rw [mem_lineK] at hx
        rw [mem_inLine G set _ _ hr]
        refine ⟨?_, hx.2⟩
        rcases Nat.lt_or_ge x i with h2 | h2
        · exact hdown x i h2 hx.2 his
        · have : x = i := by omega
          rw [this]; exact his)
      rw [lineK_len G _ _ (by omega), hlen] at h1
      have h2 := cntL_lt G.ws (G.line i) hi (show i < i + 1 by omega) rfl
      omega
    · intro hcnt
      by_cases his : (i : Int) ∈ set
      · exact his
      · exfalso
        have h1 := nodup_sub (inLine G set (G.line i)) (lineK G (G.line i) i) hnd (fun x hx => by
          rw [mem_inLine G set _ _ hr] at hx
          rw [mem_lineK]
          refine ⟨?_, hx.2⟩
          rcases Nat.lt_trichotomy x i with h2 | h2 | h2
          · exact h2
          · exact absurd (h2 ▸ hx.1) his
          · exact absurd (hdown i x h2 hx.2.symm hx.1) his)
        rw [lineK_len G _ _ (by omega), hlen] at h1
        omega
  · have hlen := inLine_len G set l
    have hmc := ok.mc l
    have h1 := nodup_sub ((cutK G G.md G.ws.length).filter fun i => decide (G.line i = l)) (inLine G set l) (List.Pairwise.filter _ (List.Pairwise.filter _ List.nodup_range)) (fun x hx => by
      rw [List.mem_filter, decide_eq_true_eq] at hx
      have h2 := (mem_cutL G G.md x).1 hx.1
      rw [mem_inLine G set _ _ hr]
      exact ⟨hm x h2.1 (by unfold Gr.must; rw [decide_eq_true_eq]; exact h2.2), hx.2⟩)
    rw [cutK_line hc G.md l _ (Nat.le_refl _), hlen, ← hc.count l hl] at h1
    omega
end Go.Proofs.Ytpgjpoilcdkjgaa
