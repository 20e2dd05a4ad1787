/- Plain: the postorder of a condition; its map of truths. -/
import Derived.Test.YtgnoikfmhncbmaaGreatDoorV2
set_option linter.unusedVariables false
set_option linter.unusedSimpArgs false
namespace Go.Proofs.YtgnoikfmhncbmaaGreatDoor
open Go.RowKit Go.Lib
theorem postO_node (b op : Nat) (cc : ByteArray) (v : RV) (l r : AT) : postO (.node b op cc v l r) = ((if (op = 1 ∨ op = 2 ∨ op = 3) ∧ l.nil? = false then postO l else []) ++ (if (op = 1 ∨ op = 2) ∧ r.nil? = false then postO r else [])) ++ [.node b op cc v l r] := rfl
theorem postO_last {t : AT} (h : t.nil? = false) : ∃ A, postO t = A ++ [t] := ⟨_, postO_kids h⟩
/-- Operands come before the part that has them. -/
theorem postO_before : ∀ (t : AT) (k : Nat) (u : AT), (postO t)[k]? = some u → ∀ c ∈ kidsQ u, ∃ j, j < k ∧ (postO t)[j]? = some c
  | .nil, k, u, h, _, _ => by simp [postO] at h
  | .node b op cc v l r, k, u, h, c, hc => by
    rw [postO_node] at h ⊢
    obtain ⟨A, hA⟩ : ∃ A, (if (op = 1 ∨ op = 2 ∨ op = 3) ∧ l.nil? = false then postO l else []) = A := ⟨_, rfl⟩
    obtain ⟨B, hB⟩ : ∃ B, (if (op = 1 ∨ op = 2) ∧ r.nil? = false then postO r else []) = B := ⟨_, rfl⟩
    have gA : ∀ k u, A[k]? = some u → ∀ c ∈ kidsQ u, ∃ j, j < k ∧ A[j]? = some c := fun k u h c hc => by
      rw [← hA] at h ⊢
      split at h
      · rename_i g; rw [if_pos g]; exact postO_before l k u h c hc
      · simp at h
    have gB : ∀ k u, B[k]? = some u → ∀ c ∈ kidsQ u, ∃ j, j < k ∧ B[j]? = some c := fun k u h c hc => by
      rw [← hB] at h ⊢
      split at h
      · rename_i g; rw [if_pos g]; exact postO_before r k u h c hc
      · simp at h
    have iA : ∀ c, c ∈ A → ∃ j, j < A.length ∧ A[j]? = some c := fun c hc => by
      obtain ⟨j, hj, e⟩ := List.mem_iff_getElem.1 hc
      exact ⟨j, hj, by rw [List.getElem?_eq_getElem hj, e]⟩
    have iB : ∀ c, c ∈ B → ∃ j, j < B.length ∧ B[j]? = some c := fun c hc => by
      obtain ⟨j, hj, e⟩ := List.mem_iff_getElem.1 hc
      exact ⟨j, hj, by rw [List.getElem?_eq_getElem hj, e]⟩
    rw [hA, hB] at h ⊢
    have toA : ∀ j c, A[j]? = some c → (A ++ B ++ [AT.node b op cc v l r])[j]? = some c := fun j c h => by
      have hj : j < A.length := by
        rcases Nat.lt_or_ge j A.length with g | g
        · exact g
        · rw [List.getElem?_eq_none g] at h; cases h
      rw [List.append_assoc, List.getElem?_append_left hj, h]
    have toB : ∀ j c, B[j]? = some c → (A ++ B ++ [AT.node b op cc v l r])[A.length + j]? = some c := fun j c h => by
      have hj : j < B.length := by
        rcases Nat.lt_or_ge j B.length with g | g
        · exact g
        · rw [List.getElem?_eq_none g] at h; cases h
      rw [List.getElem?_append_left (by simp; omega), List.getElem?_append_right (by omega)]
      have e : A.length + j - A.length = j := by omega
      rw [e, h]
    rcases Nat.lt_or_ge k A.length with g | g
    · rw [List.append_assoc, List.getElem?_append_left g] at h
      obtain ⟨j, hj, e⟩ := gA k u h c hc
      exact ⟨j, hj, toA j c e⟩
    · rcases Nat.lt_or_ge k (A.length + B.length) with g2 | g2
      · rw [List.getElem?_append_left (by simp; omega), List.getElem?_append_right g] at h
        obtain ⟨j, hj, e⟩ := gB _ u h c hc
        exact ⟨A.length + j, by omega, toB j c e⟩
      · rw [List.getElem?_append_right (by simp; omega)] at h
        have hk : k - (A ++ B).length = 0 := by
          rcases Nat.lt_or_ge (k - (A ++ B).length) 1 with g3 | g3
          · omega
          · rw [List.getElem?_eq_none (by simpa using g3)] at h; cases h
        rw [hk] at h
        simp only [List.getElem?_cons_zero, Option.some.injEq] at h
        subst h
        rw [kidsQ_node] at hc
        simp only [List.length_append] at hk
        rcases List.mem_append.1 hc with hc | hc
        · split at hc
          · rename_i q
            rw [List.mem_singleton.1 hc]
            have hm : l ∈ A := by
              rw [← hA, if_pos q]
              obtain ⟨X, hX⟩ := postO_last q.2
              rw [hX]; simp
            obtain ⟨j, hj, e⟩ := iA l hm
            exact ⟨j, by omega, toA j l e⟩
          · cases hc
        · split at hc
          · rename_i q
            rw [List.mem_singleton.1 hc]
            have hm : r ∈ B := by
              rw [← hB, if_pos q]
              obtain ⟨X, hX⟩ := postO_last q.2
              rw [hX]; simp
            obtain ⟨j, hj, e⟩ := iB r hm
            exact ⟨A.length + j, by omega, toB j r e⟩
          · cases hc
theorem postO_addrs : ∀ (t : AT), ∀ x ∈ postO t, x.nil? = false ∧ x.b ∈ t.addrs
  | .nil, x, h => by cases h
  | .node b op cc v l r, x, h => by
    rw [postO_node] at h
    rcases List.mem_append.1 h with h | h
    · rcases List.mem_append.1 h with h | h
      · split at h
        · obtain ⟨h1, h2⟩ := postO_addrs l x h
          exact ⟨h1, by simp [AT.addrs, h2]⟩
        · cases h
      · split at h
        · obtain ⟨h1, h2⟩ := postO_addrs r x h
          exact ⟨h1, by simp [AT.addrs, h2]⟩
        · cases h
    · rw [List.mem_singleton.1 h]; exact ⟨rfl, by simp [AT.addrs, AT.b]⟩
theorem postO_nodup : ∀ (t : AT), t.addrs.Nodup → ((postO t).map AT.b).Nodup
  | .nil, _ => List.nodup_nil
  | .node b op cc v l r, h => by
    rw [AT.addrs, List.nodup_cons, List.nodup_append] at h
    obtain ⟨hb, hl, hr, hd⟩ := h
    rw [postO_node, List.map_append, List.nodup_append]
    have eA : ∀ x ∈ (if (op = 1 ∨ op = 2 ∨ op = 3) ∧ l.nil? = false then postO l else []).map AT.b, x ∈ l.addrs := fun x hx => by
      split at hx
      · obtain ⟨y, hy, rfl⟩ := List.mem_map.1 hx
        exact (postO_addrs l y hy).2
      · cases hx
    have eB : ∀ x ∈ (if (op = 1 ∨ op = 2) ∧ r.nil? = false then postO r else []).map AT.b, x ∈ r.addrs := fun x hx => by
      split at hx
      · obtain ⟨y, hy, rfl⟩ := List.mem_map.1 hx
        exact (postO_addrs r y hy).2
      · cases hx
    refine ⟨?_, by simp, fun x hx y hy e => ?_⟩
    · rw [List.map_append, List.nodup_append]
      refine ⟨?_, ?_, fun x hx y hy e => hd x (eA x hx) y (eB y hy) e⟩
      · split
        · exact postO_nodup l hl
        · simp
      · split
        · exact postO_nodup r hr
        · simp
    · have ey : y = b := by simpa [AT.b] using hy
      rw [List.map_append] at hx
      subst ey
      subst e
      rcases List.mem_append.1 hx with hx | hx
      · exact hb (List.mem_append.2 (.inl (eA _ hx)))
      · exact hb (List.mem_append.2 (.inr (eB _ hx)))
theorem postO_wf (cs : List CV) : ∀ {t : AT}, wfP cs t → ∀ x ∈ postO t, wfP cs x
  | .nil, _, x, h => by cases h
  | .node b op cc v l r, hw, x, h => by
    have hw0 := hw
    obtain ⟨h0, h1, h2⟩ := hw
    rw [postO_node] at h
    rcases List.mem_append.1 h with h | h
    · rcases List.mem_append.1 h with h | h
      · split at h
        · rename_i q; exact postO_wf cs (h1 q.1) x h
        · cases h
      · split at h
        · rename_i q; exact postO_wf cs (h2 q.1) x h
        · cases h
    · rw [List.mem_singleton.1 h]; exact hw0
theorem zeroTr (w : World) : (zeroValue 120).run Tryz.prog w = .ok (.int .i64 0) w := by kernel_rfl
theorem lookT {w wr : World} {root : AT} {bm : Nat} {m : Nat → Option Value} (h : OM w root bm m wr) {a : Nat} (ha : a ∈ root.addrs) : (Instr.lookup 119 (.map (some bm)) (ptrV a) false).run Tryz.prog wr = .ok ((m a).getD (.int .i64 0)) wr := by
  obtain ⟨j, hj, hs⟩ : ∃ j, Tryz.prog.info? 46 = some j ∧ j.size ≠ 0 := by
    have := infoEx
    cases h : Tryz.prog.info? 46 with
    | none => rw [h] at this; cases this
    | some j => rw [h] at this; exact ⟨j, rfl, by simpa using this⟩
  have := h.mp.look Tryz.underlying119 Tryz.underlying24 hj hs (zeroTr wr) (h.at_.plain a ha) false
  simpa using this
theorem OM.putT {w wr : World} {root : AT} {bm : Nat} {m : Nat → Option Value} (h : OM w root bm m wr) {a : Nat} (ha : a ∈ root.addrs) (v : Value) : ∃ w', (Instr.mapUpdate 119 (.map (some bm)) (ptrV a) v).run Tryz.prog wr = .ok () w' ∧ OM w root bm (setM m a v) w' ∧ Only (fun k => k = bm) wr w' := by
  obtain ⟨j, hj, hs⟩ : ∃ j, Tryz.prog.info? 46 = some j ∧ j.size ≠ 0 := by
    have := infoEx
    cases h : Tryz.prog.info? 46 with
    | none => rw [h] at this; cases this
    | some j => rw [h] at this; exact ⟨j, rfl, by simpa using this⟩
  obtain ⟨w', h1, h2, h3⟩ := h.mp.put Tryz.underlying119 Tryz.underlying24 hj hs (h.at_.plain a ha) v
  have hno : ∀ a ∈ root.addrs, a ≠ bm := fun a ha e => by have := h.lo a ha; have := h.nb; omega
  refine ⟨w', h1, ⟨h.at_.only h3 (fun a ha => hno a ha), h2, h.b.trans (h3.below h.b.size (fun k _ e => by rw [e]; exact h.nb)), h.lo, fun k hk => ?_, h.nb⟩, h3⟩
  unfold setM at hk
  split at hk
  · rename_i e; rw [e]; exact ha
  · exact h.k k hk
theorem OM.drew {w wr : World} {root : AT} {bm : Nat} {m : Nat → Option Value} (h : OM w root bm m wr) : OM w root bm m wr.drew :=
  h.only (S := fun _ => False) (Only.refl _ _).drew (fun k _ hk => hk.elim)
end Go.Proofs.YtgnoikfmhncbmaaGreatDoor
