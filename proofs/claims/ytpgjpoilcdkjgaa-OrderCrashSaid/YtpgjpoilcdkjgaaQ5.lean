/- The reference's cut is a cut (plain). -/
import Derived.Test.YtpgjpoilcdkjgaaQ2
import Derived.Test.YtpgjpoilcdkjgaaO31
namespace Go.Proofs.Ytpgjpoilcdkjgaa

def takenL (G : Gr) (tk : List Nat) : List Nat := (List.range G.n).map fun x => G.md.getD x 0 + tk.getD x 0
theorem takenL_get (G : Gr) (tk : List Nat) (x : Nat) (h : x < G.n) : (takenL G tk).getD x 0 = G.md.getD x 0 + tk.getD x 0 := by
  unfold takenL; rw [List.getD, List.getElem?_map, List.getElem?_range h]; rfl
theorem pick_spec {G : Gr} (ok : G.Ok) (hc : G.Count) (tk : List Nat) (hl : tk.length = 4096) : ∀ k, k ≤ G.ws.length →
    (pickK (stf G) tk k).1 = cutK G (takenL G tk) k ∧ ∀ x, (pickK (stf G) tk k).2.getD x 0 = tk.getD x 0 - (cntL G.ws k x - G.md.getD x 0)
  | 0, _ => ⟨by simp [pickK, cutK], fun x => by rw [cntL_zero]; simp [pickK]⟩
  | k + 1, hk => by
    obtain ⟨h1, h2⟩ := pick_spec ok hc tk hl k (by omega)
    have hlen := (pickK_len (stf G) tk k).2
    have hkl : k < G.ws.length := by omega
    obtain ⟨hln, _⟩ := ok.line_lt hkl
    have hn2 := ok.n2
    have hsx := fun x => cntL_succ G.ws k x hkl
    have hle : G.line k = (G.ws.getD k (0, 0)).1 / 64 := rfl
    rw [cutK_succ, hc.rank k hkl, takenL_get G tk _ hln]
    have hstep : pickK (stf G) tk (k + 1) = if G.must k = true then ((pickK (stf G) tk k).1 ++ [k], (pickK (stf G) tk k).2)
        else if 0 < (pickK (stf G) tk k).2.getD (G.line k) 0 then ((pickK (stf G) tk k).1 ++ [k], (pickK (stf G) tk k).2.set (G.line k) ((pickK (stf G) tk k).2.getD (G.line k) 0 - 1))
        else pickK (stf G) tk k := by
      show (if ((stf G).getD k RSt.zero).mand = true then _ else _) = _
      rw [stf_getD G k hkl]
    rw [hstep, hc.must hkl]
    have hx := h2 (G.line k)
    by_cases hm : cntL G.ws k (G.line k) < G.md.getD (G.line k) 0
    · rw [if_pos (decide_eq_true hm), if_pos (by omega)]
      refine ⟨by rw [h1], fun x => ?_⟩
      show (pickK (stf G) tk k).2.getD x 0 = _
      rw [h2 x, hsx x, ← hle]
      by_cases hq : G.line k = x
      · rw [if_pos hq, ← hq]; omega
      · rw [if_neg hq, Nat.add_zero]
    · rw [if_neg (by simpa using hm)]
      by_cases hp : 0 < (pickK (stf G) tk k).2.getD (G.line k) 0
      · rw [if_pos hp, if_pos (by omega)]
        refine ⟨by rw [h1], fun x => ?_⟩
        show ((pickK (stf G) tk k).2.set (G.line k) _).getD x 0 = _
        rw [getD_set_nat _ _ _ _ (by omega), hsx x, ← hle]
        by_cases hq : x = G.line k
        · subst hq; rw [if_pos rfl, if_pos rfl]; omega
        · rw [if_neg hq, if_neg (fun e => hq e.symm), Nat.add_zero, h2 x]
      · rw [if_neg hp, if_neg (by omega), List.append_nil]
        refine ⟨h1, fun x => ?_⟩
        rw [h2 x, hsx x, ← hle]
        by_cases hq : G.line k = x
        · rw [if_pos hq, ← hq]; omega
        · rw [if_neg hq, Nat.add_zero]
theorem rcut_cut {G : Gr} (ok : G.Ok) (hc : G.Count) (n : Nat) : ∃ taken, rcut (stf G) n = cutL G taken ∧ (∀ l, l < G.n → G.md.getD l 0 ≤ taken.getD l 0) ∧ (∀ l, l < G.n → taken.getD l 0 ≤ G.ct.getD l 0) := by
  obtain ⟨b1, b2, _⟩ := cutF_bd (stf G) (linesK (stf G) 4096) n _ (Nat.le_refl _)
  refine ⟨takenL G (cutF (stf G) (linesK (stf G) 4096) n (linesK (stf G) 4096).length).1, ?_, ?_, ?_⟩
  · unfold rcut cutL
    rw [stf_length]
    exact (pick_spec ok hc _ b1 _ (Nat.le_refl _)).1
  · intro l hl
    rw [takenL_get G _ l hl]; omega
  · intro l hl
    rw [takenL_get G _ l hl]
    have := b2 l
    rw [loose_all hc, ← hc.count l hl] at this
    have := ok.mc l
    omega
theorem rcut_closed {G : Gr} (ok : G.Ok) (hc : G.Count) (n : Nat) : closedP G (natsI (rcut (stf G) n)) = true := by
  obtain ⟨taken, h1, h2, h3⟩ := rcut_cut ok hc n
  rw [h1]; exact cut_closed ok hc taken h2 h3
theorem stf_line {G : Gr} (ok : G.Ok) : ∀ s ∈ stf G, s.line < 4096 := by
  intro s hs
  unfold stf at hs
  rw [List.mem_map] at hs
  obtain ⟨i, hi, rfl⟩ := hs
  rw [List.mem_range] at hi
  have := (ok.line_lt hi).1
  have := ok.n2
  simp only; omega
end Go.Proofs.Ytpgjpoilcdkjgaa
