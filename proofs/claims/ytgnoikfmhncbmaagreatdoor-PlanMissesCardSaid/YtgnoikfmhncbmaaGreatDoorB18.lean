/- Walks: operands of a condition. What postorder (and Check, and Eval) keep in memory: the tree and one map; the list in postorder. The walk of postorder. -/
import Derived.Test.YtgnoikfmhncbmaaGreatDoorB9
import Derived.Test.YtgnoikfmhncbmaaGreatDoorB15
set_option linter.unusedVariables false
set_option linter.unusedSimpArgs false
namespace Go.Proofs.YtgnoikfmhncbmaaGreatDoor
open Go.RowKit
/-- The operands that the operator uses and that are there, the left one first. -/
def kidsQ : AT → List AT
  | .nil => []
  | .node _ op _ _ l r => (if (op = 1 ∨ op = 2 ∨ op = 3) ∧ l.nil? = false then [l] else []) ++ (if (op = 1 ∨ op = 2) ∧ r.nil? = false then [r] else [])
theorem kidsQ_node (b op : Nat) (cc : ByteArray) (v : RV) (l r : AT) : kidsQ (.node b op cc v l r) = (if (op = 1 ∨ op = 2 ∨ op = 3) ∧ l.nil? = false then [l] else []) ++ (if (op = 1 ∨ op = 2) ∧ r.nil? = false then [r] else []) := rfl
theorem kidsQ_mem {b op : Nat} {cc : ByteArray} {v : RV} {l r c : AT} (h : c ∈ kidsQ (.node b op cc v l r)) : (c = l ∨ c = r) ∧ c.nil? = false := by
  rw [kidsQ_node, List.mem_append] at h
  rcases h with h | h <;> split at h
  · rename_i g; simp at h; subst h; exact ⟨.inl rfl, g.2⟩
  · cases h
  · rename_i g; simp at h; subst h; exact ⟨.inr rfl, g.2⟩
  · cases h
theorem kidsQ_ok : KidsOk kidsQ where
  sub := by
    intro t c root hc hs
    cases t with
    | nil => cases hc
    | node b op cc v l r =>
      obtain ⟨h1, h2⟩ := AT.Sub.left hs
      rcases (kidsQ_mem hc).1 with rfl | rfl <;> assumption
  some := by
    intro t c hc
    cases t with
    | nil => cases hc
    | node b op cc v l r => exact (kidsQ_mem hc).2
  nd := by
    intro t hn h
    cases t with
    | nil => cases hn
    | node b op cc v l r =>
      rw [kidsQ_node]
      simp only [AT.addrs, List.nodup_cons, List.mem_append, not_or] at h
      obtain ⟨⟨hl, hr⟩, hlr⟩ := h
      rw [List.nodup_append] at hlr
      obtain ⟨n1, n2, n3⟩ := hlr
      have g : ∀ (c d : Prop) [Decidable c] [Decidable d], (((if c then [l] else []) ++ (if d then [r] else [])).flatMap AT.addrs ++ [b]).Nodup := fun c d _ _ => by
        by_cases hc : c <;> by_cases hd : d
        · rw [if_pos hc, if_pos hd]
          simp only [List.cons_append, List.nil_append, List.flatMap_cons, List.flatMap_nil, List.append_nil]
          rw [List.nodup_append, List.nodup_append]
          refine ⟨⟨n1, n2, n3⟩, by simp, fun a ha x hx e => ?_⟩
          rw [List.mem_singleton.1 hx] at e
          subst e
          rcases List.mem_append.1 ha with ha | ha
          · exact hl ha
          · exact hr ha
        · rw [if_pos hc, if_neg hd]
          simp only [List.append_nil, List.flatMap_cons, List.flatMap_nil]
          rw [List.nodup_append]
          refine ⟨n1, by simp, fun a ha x hx e => ?_⟩
          rw [List.mem_singleton.1 hx] at e
          subst e
          exact hl ha
        · rw [if_neg hc, if_pos hd]
          simp only [List.nil_append, List.append_nil, List.flatMap_cons, List.flatMap_nil]
          rw [List.nodup_append]
          refine ⟨n2, by simp, fun a ha x hx e => ?_⟩
          rw [List.mem_singleton.1 hx] at e
          subst e
          exact hr ha
        · rw [if_neg hc, if_neg hd]; simp
      exact g _ _
  mem := by
    intro t c hc a ha
    cases t with
    | nil => cases hc
    | node b op cc v l r => rcases (kidsQ_mem hc).1 with rfl | rfl <;> simp [AT.addrs, ha]
  size := by
    intro t hn
    cases t with
    | nil => cases hn
    | node b op cc v l r =>
      rw [kidsQ_node]
      split <;> split <;> simp [AT.size] <;> omega
def OpsP (ks : List AT) (w : World) (e : Ending) (w' : World) : Prop := ∃ sa sc, e = .returned (.slice sa ks.length sc) ∧ w'.ownsRow 0 24 1 (.slice sa ks.length sc) ks.length (ks.map AT.ptr) ∧ (∀ k, Value.ownBlock (.slice sa ks.length sc) = some k → w.heap.size ≤ k) ∧ Below w.heap.size w w'
set_option maxHeartbeats 4000000 in
set_option maxRecDepth 100000 in
theorem opnds_any (b op : Nat) (cc : ByteArray) (v : RV) (l r : AT) (w : World) (h : Has w b (exCells op l.ptr r.ptr cc v) 46) : Calls Tryz.prog 41 #[.pointer (some ⟨b, 0, none⟩)] w (OpsP (kidsQ (.node b op cc v l r)) w) := by
  have c0 := h.cell (o := 0) rfl
  have c1 := h.cell (o := 1) rfl
  have c2 := h.cell (o := 2) rfl
  have hl : (l.nil? = true ∧ l.ptr = .pointer none) ∨ (l.nil? = false ∧ ∃ b, l.ptr = .pointer (some ⟨b, 0, none⟩)) := by
    cases hn : l.nil?
    · exact .inr ⟨rfl, _, AT.ptr_b hn⟩
    · exact .inl ⟨rfl, by cases l with | nil => rfl | node => cases hn⟩
  have hr : (r.nil? = true ∧ r.ptr = .pointer none) ∨ (r.nil? = false ∧ ∃ b, r.ptr = .pointer (some ⟨b, 0, none⟩)) := by
    cases hn : r.nil?
    · exact .inr ⟨rfl, _, AT.ptr_b hn⟩
    · exact .inl ⟨rfl, by cases r with | nil => rfl | node => cases hn⟩
  have hL : ∀ w' : World, Below w.heap.size w w' → w'.cell? ⟨b, 0, none⟩ = some (.int .u8 (op : Int)) ∧ w'.cell? ⟨b, 2, none⟩ = some r.ptr := fun w' hb => by
    have h' := h.only (Only.of_below hb) (Nat.not_le.2 h.lt)
    exact ⟨h'.cell (o := 0) rfl, h'.cell (o := 2) rfl⟩
  clear h
  rw [kidsQ_node]
  by_cases h1 : op = 1
  · have d1 : ((op : Int) == 1) = true := by simp [h1]
    rcases hl with ⟨hl1, hl2⟩ | ⟨hl1, bl, hl2⟩ <;> rcases hr with ⟨hr1, hr2⟩ | ⟨hr1, br, hr2⟩
    · have hk : ((if (op = 1 ∨ op = 2 ∨ op = 3) ∧ l.nil? = false then [l] else []) ++ (if (op = 1 ∨ op = 2) ∧ r.nil? = false then [r] else [])) = [] := by
        rw [if_neg (by rw [hl1]; simp), if_neg (by rw [hr1]; simp)]; rfl
      rw [hk]
      clear hk
      generalize hpost : OpsP [] w = post
      have hf : ∀ sa sc w', w'.ownsRow 0 24 1 (.slice sa 0 sc) 0 [] → (∀ k, Value.ownBlock (.slice sa 0 sc) = some k → w.heap.size ≤ k) → Below w.heap.size w w' → post (.returned (.slice sa 0 sc)) w' := fun sa sc w' h1 h2 h3 => by
        rw [← hpost]; exact ⟨sa, sc, rfl, h1, h2, h3⟩
      clear hpost
      rw [hl2] at c1
      rw [hr2] at c2
      rw [hr2] at hL
      replace hf := Lib.hid hf
      replace hL := Lib.hid hL
      clear hl1 hl2 hr1 hr2
      have hfin := Lib.hid (hf.out none 0 w ⟨rfl, .inl ⟨rfl, rfl⟩⟩ (fun k hk => by cases hk) (Below.refl _ _))
      go_enter Tryz.func41, Tryz.ntmps41
      go_wp2_with fail
      exact hfin.out
    · have hk : ((if (op = 1 ∨ op = 2 ∨ op = 3) ∧ l.nil? = false then [l] else []) ++ (if (op = 1 ∨ op = 2) ∧ r.nil? = false then [r] else [])) = [r] := by
        rw [if_neg (by rw [hl1]; simp), if_pos ⟨by omega, hr1⟩]; rfl
      rw [hk]
      clear hk
      generalize hpost : OpsP [r] w = post
      have hf : ∀ sa sc w', w'.ownsRow 0 24 1 (.slice sa 1 sc) 1 [.pointer (some ⟨br, 0, none⟩)] → (∀ k, Value.ownBlock (.slice sa 1 sc) = some k → w.heap.size ≤ k) → Below w.heap.size w w' → post (.returned (.slice sa 1 sc)) w' := fun sa sc w' h1 h2 h3 => by
        rw [← hpost]; exact ⟨sa, sc, rfl, by simp only [List.map, hr2]; exact h1, h2, h3⟩
      clear hpost
      rw [hl2] at c1
      rw [hr2] at c2
      rw [hr2] at hL
      replace hf := Lib.hid hf
      replace hL := Lib.hid hL
      clear hl1 hl2 hr1 hr2
      go_enter Tryz.func41, Tryz.ntmps41
      go_wp2_with (at_builtin; refine wpList_app1 rfl (.tmp 56) (.tmp 61) 113 rfl 24 (.pointer none) 8 Tryz.underlying113 infoPEx rfl (by decide) none 0 0 [] rfl (.pointer (some ⟨br, 0, none⟩)) _ w rfl rfl ⟨rfl, .inl ⟨rfl, rfl⟩⟩ _ rfl rfl rfl (by decide) ?_)
      intro sa1 sc1 w1 own1 only1 fresh1
      have hb1 : Below w.heap.size w w1 := only1.below (Nat.le_refl _) (fun k _ hk => by cases hk)
      have hfr1 : ∀ k, Value.ownBlock (.slice sa1 1 sc1) = some k → w.heap.size ≤ k := fun k hk => by
        rcases fresh1 k hk with h | h
        · cases h
        · exact h
      have hfin := Lib.hid (hf.out sa1 sc1 w1 own1 hfr1 hb1)
      obtain ⟨g0, g2⟩ := hL.out w1 hb1
      clear own1 only1 fresh1 hb1 hfr1
      go_wp2_with fail
      exact hfin.out
    · have hk : ((if (op = 1 ∨ op = 2 ∨ op = 3) ∧ l.nil? = false then [l] else []) ++ (if (op = 1 ∨ op = 2) ∧ r.nil? = false then [r] else [])) = [l] := by
        rw [if_pos ⟨by omega, hl1⟩, if_neg (by rw [hr1]; simp)]; rfl
      rw [hk]
      clear hk
      generalize hpost : OpsP [l] w = post
      have hf : ∀ sa sc w', w'.ownsRow 0 24 1 (.slice sa 1 sc) 1 [.pointer (some ⟨bl, 0, none⟩)] → (∀ k, Value.ownBlock (.slice sa 1 sc) = some k → w.heap.size ≤ k) → Below w.heap.size w w' → post (.returned (.slice sa 1 sc)) w' := fun sa sc w' h1 h2 h3 => by
        rw [← hpost]; exact ⟨sa, sc, rfl, by simp only [List.map, hl2]; exact h1, h2, h3⟩
      clear hpost
      rw [hl2] at c1
      rw [hr2] at c2
      rw [hr2] at hL
      replace hf := Lib.hid hf
      replace hL := Lib.hid hL
      clear hl1 hl2 hr1 hr2
      go_enter Tryz.func41, Tryz.ntmps41
      go_wp2_with (at_builtin; refine wpList_app1 rfl (.tmp 30) (.tmp 35) 113 rfl 24 (.pointer none) 8 Tryz.underlying113 infoPEx rfl (by decide) none 0 0 [] rfl (.pointer (some ⟨bl, 0, none⟩)) _ w rfl rfl ⟨rfl, .inl ⟨rfl, rfl⟩⟩ _ rfl rfl rfl (by decide) ?_)
      intro sa1 sc1 w1 own1 only1 fresh1
      have hb1 : Below w.heap.size w w1 := only1.below (Nat.le_refl _) (fun k _ hk => by cases hk)
      have hfr1 : ∀ k, Value.ownBlock (.slice sa1 1 sc1) = some k → w.heap.size ≤ k := fun k hk => by
        rcases fresh1 k hk with h | h
        · cases h
        · exact h
      have hfin := Lib.hid (hf.out sa1 sc1 w1 own1 hfr1 hb1)
      obtain ⟨g0, g2⟩ := hL.out w1 hb1
      clear own1 only1 fresh1 hb1 hfr1
      go_wp2_with fail
      exact hfin.out
    · have hk : ((if (op = 1 ∨ op = 2 ∨ op = 3) ∧ l.nil? = false then [l] else []) ++ (if (op = 1 ∨ op = 2) ∧ r.nil? = false then [r] else [])) = [l, r] := by
        rw [if_pos ⟨by omega, hl1⟩, if_pos ⟨by omega, hr1⟩]; rfl
      rw [hk]
      clear hk
      generalize hpost : OpsP [l, r] w = post
      have hf : ∀ sa sc w', w'.ownsRow 0 24 1 (.slice sa 2 sc) 2 [.pointer (some ⟨bl, 0, none⟩), .pointer (some ⟨br, 0, none⟩)] → (∀ k, Value.ownBlock (.slice sa 2 sc) = some k → w.heap.size ≤ k) → Below w.heap.size w w' → post (.returned (.slice sa 2 sc)) w' := fun sa sc w' h1 h2 h3 => by
        rw [← hpost]; exact ⟨sa, sc, rfl, by simp only [List.map, hl2, hr2]; exact h1, h2, h3⟩
      clear hpost
      rw [hl2] at c1
      rw [hr2] at c2
      rw [hr2] at hL
      replace hf := Lib.hid hf
      replace hL := Lib.hid hL
      clear hl1 hl2 hr1 hr2
      go_enter Tryz.func41, Tryz.ntmps41
      go_wp2_with (at_builtin; refine wpList_app1 rfl (.tmp 30) (.tmp 35) 113 rfl 24 (.pointer none) 8 Tryz.underlying113 infoPEx rfl (by decide) none 0 0 [] rfl (.pointer (some ⟨bl, 0, none⟩)) _ w rfl rfl ⟨rfl, .inl ⟨rfl, rfl⟩⟩ _ rfl rfl rfl (by decide) ?_)
      intro sa1 sc1 w1 own1 only1 fresh1
      have hb1 : Below w.heap.size w w1 := only1.below (Nat.le_refl _) (fun k _ hk => by cases hk)
      have hfr1 : ∀ k, Value.ownBlock (.slice sa1 1 sc1) = some k → w.heap.size ≤ k := fun k hk => by
        rcases fresh1 k hk with h | h
        · cases h
        · exact h
      obtain ⟨g0, g2⟩ := hL.out w1 hb1
      have hz1 := hb1.size
      clear only1 fresh1
      replace hb1 := Lib.hid hb1
      replace hfr1 := Lib.hid hfr1
      go_wp2_with (at_builtin; refine wpList_app1 rfl (.tmp 56) (.tmp 61) 113 rfl 24 (.pointer none) 8 Tryz.underlying113 infoPEx rfl (by decide) sa1 1 sc1 [.pointer (some ⟨bl, 0, none⟩)] rfl (.pointer (some ⟨br, 0, none⟩)) _ w1 rfl rfl own1 _ rfl rfl rfl (by decide) ?_)
      intro sa2 sc2 w2 own2 only2 fresh2
      have hb2 : Below w.heap.size w w2 := hb1.out.trans (only2.below (B := w.heap.size) hz1 (fun k _ hk => hfr1.out k hk))
      have hfin := Lib.hid (hf.out sa2 sc2 w2 own2 (fun k hk => by
        rcases fresh2 k hk with h | h
        · exact hfr1.out k h
        · omega) hb2)
      clear own1 own2 only2 fresh2 hb2
      go_wp2_with fail
      exact hfin.out
  have d1 : ((op : Int) == 1) = false := by simp; omega
  by_cases h2 : op = 2
  · have d2 : ((op : Int) == 2) = true := by simp [h2]
    rcases hl with ⟨hl1, hl2⟩ | ⟨hl1, bl, hl2⟩ <;> rcases hr with ⟨hr1, hr2⟩ | ⟨hr1, br, hr2⟩
    · have hk : ((if (op = 1 ∨ op = 2 ∨ op = 3) ∧ l.nil? = false then [l] else []) ++ (if (op = 1 ∨ op = 2) ∧ r.nil? = false then [r] else [])) = [] := by
        rw [if_neg (by rw [hl1]; simp), if_neg (by rw [hr1]; simp)]; rfl
      rw [hk]
      clear hk
      generalize hpost : OpsP [] w = post
      have hf : ∀ sa sc w', w'.ownsRow 0 24 1 (.slice sa 0 sc) 0 [] → (∀ k, Value.ownBlock (.slice sa 0 sc) = some k → w.heap.size ≤ k) → Below w.heap.size w w' → post (.returned (.slice sa 0 sc)) w' := fun sa sc w' h1 h2 h3 => by
        rw [← hpost]; exact ⟨sa, sc, rfl, h1, h2, h3⟩
      clear hpost
      rw [hl2] at c1
      rw [hr2] at c2
      rw [hr2] at hL
      replace hf := Lib.hid hf
      replace hL := Lib.hid hL
      clear hl1 hl2 hr1 hr2
      have hfin := Lib.hid (hf.out none 0 w ⟨rfl, .inl ⟨rfl, rfl⟩⟩ (fun k hk => by cases hk) (Below.refl _ _))
      go_enter Tryz.func41, Tryz.ntmps41
      go_wp2_with fail
      exact hfin.out
    · have hk : ((if (op = 1 ∨ op = 2 ∨ op = 3) ∧ l.nil? = false then [l] else []) ++ (if (op = 1 ∨ op = 2) ∧ r.nil? = false then [r] else [])) = [r] := by
        rw [if_neg (by rw [hl1]; simp), if_pos ⟨by omega, hr1⟩]; rfl
      rw [hk]
      clear hk
      generalize hpost : OpsP [r] w = post
      have hf : ∀ sa sc w', w'.ownsRow 0 24 1 (.slice sa 1 sc) 1 [.pointer (some ⟨br, 0, none⟩)] → (∀ k, Value.ownBlock (.slice sa 1 sc) = some k → w.heap.size ≤ k) → Below w.heap.size w w' → post (.returned (.slice sa 1 sc)) w' := fun sa sc w' h1 h2 h3 => by
        rw [← hpost]; exact ⟨sa, sc, rfl, by simp only [List.map, hr2]; exact h1, h2, h3⟩
      clear hpost
      rw [hl2] at c1
      rw [hr2] at c2
      rw [hr2] at hL
      replace hf := Lib.hid hf
      replace hL := Lib.hid hL
      clear hl1 hl2 hr1 hr2
      go_enter Tryz.func41, Tryz.ntmps41
      go_wp2_with (at_builtin; refine wpList_app1 rfl (.tmp 56) (.tmp 61) 113 rfl 24 (.pointer none) 8 Tryz.underlying113 infoPEx rfl (by decide) none 0 0 [] rfl (.pointer (some ⟨br, 0, none⟩)) _ w rfl rfl ⟨rfl, .inl ⟨rfl, rfl⟩⟩ _ rfl rfl rfl (by decide) ?_)
      intro sa1 sc1 w1 own1 only1 fresh1
      have hb1 : Below w.heap.size w w1 := only1.below (Nat.le_refl _) (fun k _ hk => by cases hk)
      have hfr1 : ∀ k, Value.ownBlock (.slice sa1 1 sc1) = some k → w.heap.size ≤ k := fun k hk => by
        rcases fresh1 k hk with h | h
        · cases h
        · exact h
      have hfin := Lib.hid (hf.out sa1 sc1 w1 own1 hfr1 hb1)
      obtain ⟨g0, g2⟩ := hL.out w1 hb1
      clear own1 only1 fresh1 hb1 hfr1
      go_wp2_with fail
      exact hfin.out
    · have hk : ((if (op = 1 ∨ op = 2 ∨ op = 3) ∧ l.nil? = false then [l] else []) ++ (if (op = 1 ∨ op = 2) ∧ r.nil? = false then [r] else [])) = [l] := by
        rw [if_pos ⟨by omega, hl1⟩, if_neg (by rw [hr1]; simp)]; rfl
      rw [hk]
      clear hk
      generalize hpost : OpsP [l] w = post
      have hf : ∀ sa sc w', w'.ownsRow 0 24 1 (.slice sa 1 sc) 1 [.pointer (some ⟨bl, 0, none⟩)] → (∀ k, Value.ownBlock (.slice sa 1 sc) = some k → w.heap.size ≤ k) → Below w.heap.size w w' → post (.returned (.slice sa 1 sc)) w' := fun sa sc w' h1 h2 h3 => by
        rw [← hpost]; exact ⟨sa, sc, rfl, by simp only [List.map, hl2]; exact h1, h2, h3⟩
      clear hpost
      rw [hl2] at c1
      rw [hr2] at c2
      rw [hr2] at hL
      replace hf := Lib.hid hf
      replace hL := Lib.hid hL
      clear hl1 hl2 hr1 hr2
      go_enter Tryz.func41, Tryz.ntmps41
      go_wp2_with (at_builtin; refine wpList_app1 rfl (.tmp 30) (.tmp 35) 113 rfl 24 (.pointer none) 8 Tryz.underlying113 infoPEx rfl (by decide) none 0 0 [] rfl (.pointer (some ⟨bl, 0, none⟩)) _ w rfl rfl ⟨rfl, .inl ⟨rfl, rfl⟩⟩ _ rfl rfl rfl (by decide) ?_)
      intro sa1 sc1 w1 own1 only1 fresh1
      have hb1 : Below w.heap.size w w1 := only1.below (Nat.le_refl _) (fun k _ hk => by cases hk)
      have hfr1 : ∀ k, Value.ownBlock (.slice sa1 1 sc1) = some k → w.heap.size ≤ k := fun k hk => by
        rcases fresh1 k hk with h | h
        · cases h
        · exact h
      have hfin := Lib.hid (hf.out sa1 sc1 w1 own1 hfr1 hb1)
      obtain ⟨g0, g2⟩ := hL.out w1 hb1
      clear own1 only1 fresh1 hb1 hfr1
      go_wp2_with fail
      exact hfin.out
    · have hk : ((if (op = 1 ∨ op = 2 ∨ op = 3) ∧ l.nil? = false then [l] else []) ++ (if (op = 1 ∨ op = 2) ∧ r.nil? = false then [r] else [])) = [l, r] := by
        rw [if_pos ⟨by omega, hl1⟩, if_pos ⟨by omega, hr1⟩]; rfl
      rw [hk]
      clear hk
      generalize hpost : OpsP [l, r] w = post
      have hf : ∀ sa sc w', w'.ownsRow 0 24 1 (.slice sa 2 sc) 2 [.pointer (some ⟨bl, 0, none⟩), .pointer (some ⟨br, 0, none⟩)] → (∀ k, Value.ownBlock (.slice sa 2 sc) = some k → w.heap.size ≤ k) → Below w.heap.size w w' → post (.returned (.slice sa 2 sc)) w' := fun sa sc w' h1 h2 h3 => by
        rw [← hpost]; exact ⟨sa, sc, rfl, by simp only [List.map, hl2, hr2]; exact h1, h2, h3⟩
      clear hpost
      rw [hl2] at c1
      rw [hr2] at c2
      rw [hr2] at hL
      replace hf := Lib.hid hf
      replace hL := Lib.hid hL
      clear hl1 hl2 hr1 hr2
      go_enter Tryz.func41, Tryz.ntmps41
      go_wp2_with (at_builtin; refine wpList_app1 rfl (.tmp 30) (.tmp 35) 113 rfl 24 (.pointer none) 8 Tryz.underlying113 infoPEx rfl (by decide) none 0 0 [] rfl (.pointer (some ⟨bl, 0, none⟩)) _ w rfl rfl ⟨rfl, .inl ⟨rfl, rfl⟩⟩ _ rfl rfl rfl (by decide) ?_)
      intro sa1 sc1 w1 own1 only1 fresh1
      have hb1 : Below w.heap.size w w1 := only1.below (Nat.le_refl _) (fun k _ hk => by cases hk)
      have hfr1 : ∀ k, Value.ownBlock (.slice sa1 1 sc1) = some k → w.heap.size ≤ k := fun k hk => by
        rcases fresh1 k hk with h | h
        · cases h
        · exact h
      obtain ⟨g0, g2⟩ := hL.out w1 hb1
      have hz1 := hb1.size
      clear only1 fresh1
      replace hb1 := Lib.hid hb1
      replace hfr1 := Lib.hid hfr1
      go_wp2_with (at_builtin; refine wpList_app1 rfl (.tmp 56) (.tmp 61) 113 rfl 24 (.pointer none) 8 Tryz.underlying113 infoPEx rfl (by decide) sa1 1 sc1 [.pointer (some ⟨bl, 0, none⟩)] rfl (.pointer (some ⟨br, 0, none⟩)) _ w1 rfl rfl own1 _ rfl rfl rfl (by decide) ?_)
      intro sa2 sc2 w2 own2 only2 fresh2
      have hb2 : Below w.heap.size w w2 := hb1.out.trans (only2.below (B := w.heap.size) hz1 (fun k _ hk => hfr1.out k hk))
      have hfin := Lib.hid (hf.out sa2 sc2 w2 own2 (fun k hk => by
        rcases fresh2 k hk with h | h
        · exact hfr1.out k h
        · omega) hb2)
      clear own1 own2 only2 fresh2 hb2
      go_wp2_with fail
      exact hfin.out
  have d2 : ((op : Int) == 2) = false := by simp; omega
  by_cases h3 : op = 3
  · have d3 : ((op : Int) == 3) = true := by simp [h3]
    rcases hl with ⟨hl1, hl2⟩ | ⟨hl1, bl, hl2⟩ <;> rcases hr with ⟨hr1, hr2⟩ | ⟨hr1, br, hr2⟩
    · have hk : ((if (op = 1 ∨ op = 2 ∨ op = 3) ∧ l.nil? = false then [l] else []) ++ (if (op = 1 ∨ op = 2) ∧ r.nil? = false then [r] else [])) = [] := by
        rw [if_neg (by rw [hl1]; simp), if_neg (fun h => by omega)]; rfl
      rw [hk]
      clear hk
      generalize hpost : OpsP [] w = post
      have hf : ∀ sa sc w', w'.ownsRow 0 24 1 (.slice sa 0 sc) 0 [] → (∀ k, Value.ownBlock (.slice sa 0 sc) = some k → w.heap.size ≤ k) → Below w.heap.size w w' → post (.returned (.slice sa 0 sc)) w' := fun sa sc w' h1 h2 h3 => by
        rw [← hpost]; exact ⟨sa, sc, rfl, h1, h2, h3⟩
      clear hpost
      rw [hl2] at c1
      rw [hr2] at c2
      rw [hr2] at hL
      replace hf := Lib.hid hf
      replace hL := Lib.hid hL
      clear hl1 hl2 hr1 hr2
      have hfin := Lib.hid (hf.out none 0 w ⟨rfl, .inl ⟨rfl, rfl⟩⟩ (fun k hk => by cases hk) (Below.refl _ _))
      go_enter Tryz.func41, Tryz.ntmps41
      go_wp2_with fail
      exact hfin.out
    · have hk : ((if (op = 1 ∨ op = 2 ∨ op = 3) ∧ l.nil? = false then [l] else []) ++ (if (op = 1 ∨ op = 2) ∧ r.nil? = false then [r] else [])) = [] := by
        rw [if_neg (by rw [hl1]; simp), if_neg (fun h => by omega)]; rfl
      rw [hk]
      clear hk
      generalize hpost : OpsP [] w = post
      have hf : ∀ sa sc w', w'.ownsRow 0 24 1 (.slice sa 0 sc) 0 [] → (∀ k, Value.ownBlock (.slice sa 0 sc) = some k → w.heap.size ≤ k) → Below w.heap.size w w' → post (.returned (.slice sa 0 sc)) w' := fun sa sc w' h1 h2 h3 => by
        rw [← hpost]; exact ⟨sa, sc, rfl, h1, h2, h3⟩
      clear hpost
      rw [hl2] at c1
      rw [hr2] at c2
      rw [hr2] at hL
      replace hf := Lib.hid hf
      replace hL := Lib.hid hL
      clear hl1 hl2 hr1 hr2
      have hfin := Lib.hid (hf.out none 0 w ⟨rfl, .inl ⟨rfl, rfl⟩⟩ (fun k hk => by cases hk) (Below.refl _ _))
      go_enter Tryz.func41, Tryz.ntmps41
      go_wp2_with fail
      exact hfin.out
    · have hk : ((if (op = 1 ∨ op = 2 ∨ op = 3) ∧ l.nil? = false then [l] else []) ++ (if (op = 1 ∨ op = 2) ∧ r.nil? = false then [r] else [])) = [l] := by
        rw [if_pos ⟨by omega, hl1⟩, if_neg (fun h => by omega)]; rfl
      rw [hk]
      clear hk
      generalize hpost : OpsP [l] w = post
      have hf : ∀ sa sc w', w'.ownsRow 0 24 1 (.slice sa 1 sc) 1 [.pointer (some ⟨bl, 0, none⟩)] → (∀ k, Value.ownBlock (.slice sa 1 sc) = some k → w.heap.size ≤ k) → Below w.heap.size w w' → post (.returned (.slice sa 1 sc)) w' := fun sa sc w' h1 h2 h3 => by
        rw [← hpost]; exact ⟨sa, sc, rfl, by simp only [List.map, hl2]; exact h1, h2, h3⟩
      clear hpost
      rw [hl2] at c1
      rw [hr2] at c2
      rw [hr2] at hL
      replace hf := Lib.hid hf
      replace hL := Lib.hid hL
      clear hl1 hl2 hr1 hr2
      go_enter Tryz.func41, Tryz.ntmps41
      go_wp2_with (at_builtin; refine wpList_app1 rfl (.tmp 30) (.tmp 35) 113 rfl 24 (.pointer none) 8 Tryz.underlying113 infoPEx rfl (by decide) none 0 0 [] rfl (.pointer (some ⟨bl, 0, none⟩)) _ w rfl rfl ⟨rfl, .inl ⟨rfl, rfl⟩⟩ _ rfl rfl rfl (by decide) ?_)
      intro sa1 sc1 w1 own1 only1 fresh1
      have hb1 : Below w.heap.size w w1 := only1.below (Nat.le_refl _) (fun k _ hk => by cases hk)
      have hfr1 : ∀ k, Value.ownBlock (.slice sa1 1 sc1) = some k → w.heap.size ≤ k := fun k hk => by
        rcases fresh1 k hk with h | h
        · cases h
        · exact h
      have hfin := Lib.hid (hf.out sa1 sc1 w1 own1 hfr1 hb1)
      obtain ⟨g0, g2⟩ := hL.out w1 hb1
      clear own1 only1 fresh1 hb1 hfr1
      go_wp2_with fail
      exact hfin.out
    · have hk : ((if (op = 1 ∨ op = 2 ∨ op = 3) ∧ l.nil? = false then [l] else []) ++ (if (op = 1 ∨ op = 2) ∧ r.nil? = false then [r] else [])) = [l] := by
        rw [if_pos ⟨by omega, hl1⟩, if_neg (fun h => by omega)]; rfl
      rw [hk]
      clear hk
      generalize hpost : OpsP [l] w = post
      have hf : ∀ sa sc w', w'.ownsRow 0 24 1 (.slice sa 1 sc) 1 [.pointer (some ⟨bl, 0, none⟩)] → (∀ k, Value.ownBlock (.slice sa 1 sc) = some k → w.heap.size ≤ k) → Below w.heap.size w w' → post (.returned (.slice sa 1 sc)) w' := fun sa sc w' h1 h2 h3 => by
        rw [← hpost]; exact ⟨sa, sc, rfl, by simp only [List.map, hl2]; exact h1, h2, h3⟩
      clear hpost
      rw [hl2] at c1
      rw [hr2] at c2
      rw [hr2] at hL
      replace hf := Lib.hid hf
      replace hL := Lib.hid hL
      clear hl1 hl2 hr1 hr2
      go_enter Tryz.func41, Tryz.ntmps41
      go_wp2_with (at_builtin; refine wpList_app1 rfl (.tmp 30) (.tmp 35) 113 rfl 24 (.pointer none) 8 Tryz.underlying113 infoPEx rfl (by decide) none 0 0 [] rfl (.pointer (some ⟨bl, 0, none⟩)) _ w rfl rfl ⟨rfl, .inl ⟨rfl, rfl⟩⟩ _ rfl rfl rfl (by decide) ?_)
      intro sa1 sc1 w1 own1 only1 fresh1
      have hb1 : Below w.heap.size w w1 := only1.below (Nat.le_refl _) (fun k _ hk => by cases hk)
      have hfr1 : ∀ k, Value.ownBlock (.slice sa1 1 sc1) = some k → w.heap.size ≤ k := fun k hk => by
        rcases fresh1 k hk with h | h
        · cases h
        · exact h
      have hfin := Lib.hid (hf.out sa1 sc1 w1 own1 hfr1 hb1)
      obtain ⟨g0, g2⟩ := hL.out w1 hb1
      clear own1 only1 fresh1 hb1 hfr1
      go_wp2_with fail
      exact hfin.out
  have d3 : ((op : Int) == 3) = false := by simp; omega
  rcases hl with ⟨hl1, hl2⟩ | ⟨hl1, bl, hl2⟩ <;> rcases hr with ⟨hr1, hr2⟩ | ⟨hr1, br, hr2⟩
  · have hk : ((if (op = 1 ∨ op = 2 ∨ op = 3) ∧ l.nil? = false then [l] else []) ++ (if (op = 1 ∨ op = 2) ∧ r.nil? = false then [r] else [])) = [] := by
      rw [if_neg (fun h => by omega), if_neg (fun h => by omega)]; rfl
    rw [hk]
    clear hk
    generalize hpost : OpsP [] w = post
    have hf : ∀ sa sc w', w'.ownsRow 0 24 1 (.slice sa 0 sc) 0 [] → (∀ k, Value.ownBlock (.slice sa 0 sc) = some k → w.heap.size ≤ k) → Below w.heap.size w w' → post (.returned (.slice sa 0 sc)) w' := fun sa sc w' h1 h2 h3 => by
      rw [← hpost]; exact ⟨sa, sc, rfl, h1, h2, h3⟩
    clear hpost
    rw [hl2] at c1
    rw [hr2] at c2
    rw [hr2] at hL
    replace hf := Lib.hid hf
    replace hL := Lib.hid hL
    clear hl1 hl2 hr1 hr2
    have hfin := Lib.hid (hf.out none 0 w ⟨rfl, .inl ⟨rfl, rfl⟩⟩ (fun k hk => by cases hk) (Below.refl _ _))
    go_enter Tryz.func41, Tryz.ntmps41
    go_wp2_with fail
    exact hfin.out
  · have hk : ((if (op = 1 ∨ op = 2 ∨ op = 3) ∧ l.nil? = false then [l] else []) ++ (if (op = 1 ∨ op = 2) ∧ r.nil? = false then [r] else [])) = [] := by
      rw [if_neg (fun h => by omega), if_neg (fun h => by omega)]; rfl
    rw [hk]
    clear hk
    generalize hpost : OpsP [] w = post
    have hf : ∀ sa sc w', w'.ownsRow 0 24 1 (.slice sa 0 sc) 0 [] → (∀ k, Value.ownBlock (.slice sa 0 sc) = some k → w.heap.size ≤ k) → Below w.heap.size w w' → post (.returned (.slice sa 0 sc)) w' := fun sa sc w' h1 h2 h3 => by
      rw [← hpost]; exact ⟨sa, sc, rfl, h1, h2, h3⟩
    clear hpost
    rw [hl2] at c1
    rw [hr2] at c2
    rw [hr2] at hL
    replace hf := Lib.hid hf
    replace hL := Lib.hid hL
    clear hl1 hl2 hr1 hr2
    have hfin := Lib.hid (hf.out none 0 w ⟨rfl, .inl ⟨rfl, rfl⟩⟩ (fun k hk => by cases hk) (Below.refl _ _))
    go_enter Tryz.func41, Tryz.ntmps41
    go_wp2_with fail
    exact hfin.out
  · have hk : ((if (op = 1 ∨ op = 2 ∨ op = 3) ∧ l.nil? = false then [l] else []) ++ (if (op = 1 ∨ op = 2) ∧ r.nil? = false then [r] else [])) = [] := by
      rw [if_neg (fun h => by omega), if_neg (fun h => by omega)]; rfl
    rw [hk]
    clear hk
    generalize hpost : OpsP [] w = post
    have hf : ∀ sa sc w', w'.ownsRow 0 24 1 (.slice sa 0 sc) 0 [] → (∀ k, Value.ownBlock (.slice sa 0 sc) = some k → w.heap.size ≤ k) → Below w.heap.size w w' → post (.returned (.slice sa 0 sc)) w' := fun sa sc w' h1 h2 h3 => by
      rw [← hpost]; exact ⟨sa, sc, rfl, h1, h2, h3⟩
    clear hpost
    rw [hl2] at c1
    rw [hr2] at c2
    rw [hr2] at hL
    replace hf := Lib.hid hf
    replace hL := Lib.hid hL
    clear hl1 hl2 hr1 hr2
    have hfin := Lib.hid (hf.out none 0 w ⟨rfl, .inl ⟨rfl, rfl⟩⟩ (fun k hk => by cases hk) (Below.refl _ _))
    go_enter Tryz.func41, Tryz.ntmps41
    go_wp2_with fail
    exact hfin.out
  · have hk : ((if (op = 1 ∨ op = 2 ∨ op = 3) ∧ l.nil? = false then [l] else []) ++ (if (op = 1 ∨ op = 2) ∧ r.nil? = false then [r] else [])) = [] := by
      rw [if_neg (fun h => by omega), if_neg (fun h => by omega)]; rfl
    rw [hk]
    clear hk
    generalize hpost : OpsP [] w = post
    have hf : ∀ sa sc w', w'.ownsRow 0 24 1 (.slice sa 0 sc) 0 [] → (∀ k, Value.ownBlock (.slice sa 0 sc) = some k → w.heap.size ≤ k) → Below w.heap.size w w' → post (.returned (.slice sa 0 sc)) w' := fun sa sc w' h1 h2 h3 => by
      rw [← hpost]; exact ⟨sa, sc, rfl, h1, h2, h3⟩
    clear hpost
    rw [hl2] at c1
    rw [hr2] at c2
    rw [hr2] at hL
    replace hf := Lib.hid hf
    replace hL := Lib.hid hL
    clear hl1 hl2 hr1 hr2
    have hfin := Lib.hid (hf.out none 0 w ⟨rfl, .inl ⟨rfl, rfl⟩⟩ (fun k hk => by cases hk) (Below.refl _ _))
    go_enter Tryz.func41, Tryz.ntmps41
    go_wp2_with fail
    exact hfin.out
end Go.Proofs.YtgnoikfmhncbmaaGreatDoor

namespace Go.Proofs.YtgnoikfmhncbmaaGreatDoor
open Go.RowKit
/-- The parts of a condition, operands before the part that has them. -/
def postO : AT → List AT
  | .nil => []
  | .node b op cc v l r => ((if (op = 1 ∨ op = 2 ∨ op = 3) ∧ l.nil? = false then postO l else []) ++ (if (op = 1 ∨ op = 2) ∧ r.nil? = false then postO r else [])) ++ [.node b op cc v l r]
theorem postO_kids {t : AT} (h : t.nil? = false) : postO t = (kidsQ t).flatMap postO ++ [t] := by
  cases t with
  | nil => cases h
  | node b op cc v l r =>
    rw [postO, kidsQ_node, List.flatMap_append]
    congr 2
    · split <;> simp
    · split <;> simp
theorem postO_len : ∀ t : AT, (postO t).length ≤ t.size
  | .nil => Nat.le_refl _
  | .node b op cc v l r => by
    have hl := postO_len l
    have hr := postO_len r
    rw [postO]
    simp only [List.length_append, List.length_singleton, AT.size]
    split <;> split <;> simp <;> omega
theorem postO_sub {root : AT} : ∀ {t : AT}, t.Sub root → ∀ c ∈ postO t, c.Sub root ∧ c.nil? = false
  | .nil, _, c, hc => by cases hc
  | .node b op cc v l r, hs, c, hc => by
    obtain ⟨h1, h2⟩ := AT.Sub.left hs
    rw [postO] at hc
    simp only [List.mem_append, List.mem_singleton] at hc
    rcases hc with (hc | hc) | rfl
    · split at hc
      · exact postO_sub h1 c hc
      · cases hc
    · split at hc
      · exact postO_sub h2 c hc
      · cases hc
    · exact ⟨hs, rfl⟩
def It.po : It → List AT | .fr t => postO t | .wt t => [t]
theorem kidsQ_len (t : AT) : (kidsQ t).length ≤ 2 := by
  cases t with
  | nil => decide
  | node b op cc v l r => rw [kidsQ_node]; split <;> split <;> simp
/-- The tree, and one map keyed by its parts. -/
structure OM (w : World) (root : AT) (bm : Nat) (m : Nat → Option Value) (wr : World) : Prop where
  at_ : root.At wr
  mp : PM wr bm m
  b : Below w.heap.size w wr
  lo : ∀ a ∈ root.addrs, a < w.heap.size
  k : ∀ a, (m a).isSome = true → a ∈ root.addrs
  nb : w.heap.size ≤ bm
variable {w wr w' : World} {root : AT} {bm : Nat} {m : Nat → Option Value}
theorem OM.only {S : Nat → Prop} (h : OM w root bm m wr) (ho : Only S wr w') (hS : ∀ k, k < wr.heap.size → S k → w.heap.size ≤ k ∧ k ≠ bm) : OM w root bm m w' := by
  have hno : ∀ a ∈ root.addrs, ¬ S a := fun a ha hs => by
    have h1 := h.lo a ha
    have h2 := h.at_.lt a ha
    have := (hS a h2 hs).1; omega
  exact ⟨h.at_.only ho hno, h.mp.only ho (fun hs => (hS _ h.mp.lt hs).2 rfl) (fun a ha => hno a (h.k a ha)), h.b.trans (ho.below h.b.size (fun k hk hs => (hS k hk hs).1)), h.lo, h.k, h.nb⟩
theorem OM.below (h : OM w root bm m wr) (hb : Below wr.heap.size wr w') : OM w root bm m w' := h.only (Only.of_below hb) (fun k hk hs => by omega)
theorem OM.putB (h : OM w root bm m wr) {a : Nat} (ha : a ∈ root.addrs) (v : Value) : ∃ w', (Instr.mapUpdate 112 (.map (some bm)) (ptrV a) v).run Tryz.prog wr = .ok () w' ∧ OM w root bm (setM m a v) w' ∧ Only (fun k => k = bm) wr w' := by
  obtain ⟨j, hj, hs⟩ : ∃ j, Tryz.prog.info? 46 = some j ∧ j.size ≠ 0 := by
    have := infoEx
    cases h : Tryz.prog.info? 46 with
    | none => rw [h] at this; cases this
    | some j => rw [h] at this; exact ⟨j, rfl, by simpa using this⟩
  obtain ⟨w', h1, h2, h3⟩ := h.mp.put Tryz.underlying112 Tryz.underlying24 hj hs (h.at_.plain a ha) v
  have hno : ∀ a ∈ root.addrs, a ≠ bm := fun a ha e => by have := h.lo a ha; have := h.nb; omega
  refine ⟨w', h1, ⟨h.at_.only h3 (fun a ha => hno a ha), h2, h.b.trans (h3.below h.b.size (fun k _ e => by rw [e]; exact h.nb)), h.lo, fun k hk => ?_, h.nb⟩, h3⟩
  unfold setM at hk
  split at hk
  · rename_i e; rw [e]; exact ha
  · exact h.k k hk
abbrev ownB (v : Value) (k : Nat) : Prop := v.ownBlock = some k
/-- postorder between two rounds: the stack, the list, the map. -/
structure PoI (w : World) (root : AT) (bm : Nat) (its : List It) (sa : Option Addr) (sc : Nat) (L : List AT) (la : Option Addr) (lc : Nat) (m : Nat → Option Value) (wr : World) : Prop where
  om : OM w root bm m wr
  own : wr.ownsRow 0 24 1 (.slice sa its.length sc) its.length (its.reverse.map fun it => it.tree.ptr)
  ownL : wr.ownsRow 0 24 1 (.slice la L.length lc) L.length (L.map AT.ptr)
  ob : ∀ k, ownB (.slice sa its.length sc) k → w.heap.size ≤ k ∧ k ≠ bm ∧ ¬ ownB (.slice la L.length lc) k
  obL : ∀ k, ownB (.slice la L.length lc) k → w.heap.size ≤ k ∧ k ≠ bm
  inv : StkI kidsQ root its (fun a => m a = some (.bool true)) (fun a => (m a).isSome = true) (fun _ => True)
  po : L ++ its.flatMap It.po = postO root
  vB : ∀ a v, m a = some v → v = .bool true ∨ v = .bool false
theorem PoI.fr_none {its : List It} {t : AT} {s : List It} {sa la : Option Addr} {sc lc : Nat} {L : List AT} (h : PoI w root bm (.fr t :: s) sa sc L la lc m wr) : m t.b = none := by
  have h1 := h.inv.top_fr.2.1
  cases e : m t.b with
  | none => rfl
  | some x => exact absurd (by rw [e]; rfl) h1
theorem PoI.wt_false {t : AT} {s : List It} {sa la : Option Addr} {sc lc : Nat} {L : List AT} (h : PoI w root bm (.wt t :: s) sa sc L la lc m wr) : m t.b = some (.bool false) := by
  obtain ⟨h1, h2, _⟩ := h.inv.top_wt
  cases e : m t.b with
  | none => rw [e] at h1; cases h1
  | some x =>
    rcases h.vB _ _ e with rfl | rfl
    · exact absurd e h2
    · rfl
theorem PoI.len {its : List It} {sa la : Option Addr} {sc lc : Nat} {L : List AT} (h : PoI w root bm its sa sc L la lc m wr) : L.length ≤ root.size := by
  have h1 := congrArg List.length h.po
  have h2 := postO_len root
  rw [List.length_append] at h1
  omega
/-- The part at the top is finished: it goes to the list. -/
theorem PoI.fin {t : AT} {s : List It} {g sc : Nat} {la la' : Option Addr} {lc lc' : Nat} {L : List AT} {w2 w3 : World} (h : PoI w root bm (.wt t :: s) (some ⟨g, 0, none⟩) sc L la lc m wr) (M2 : OM w root bm (setM m t.b (.bool true)) w2) (O2 : Only (fun k => k = bm) wr w2)
    (own3 : w3.ownsRow 0 24 1 (.slice la' (L.length + 1) lc') (L.length + 1) (L.map AT.ptr ++ [t.ptr])) (only3 : Only (fun k => ownB (.slice la L.length lc) k) w2 w3) (fresh3 : ∀ k, ownB (.slice la' (L.length + 1) lc') k → ownB (.slice la L.length lc) k ∨ w2.heap.size ≤ k) :
    PoI w root bm s (some ⟨g, 0, none⟩) sc (L ++ [t]) la' lc' (setM m t.b (.bool true)) w3 := by
  have hM3 : OM w root bm (setM m t.b (.bool true)) w3 := M2.only only3 (fun k _ hk => h.obL k hk)
  have hg := h.ob g rfl
  have hown := ownsRow_only (ownsRow_only h.own O2 (fun k hk e => (h.ob k hk).2.1 e)) only3 (fun k hk e => (h.ob k hk).2.2 e)
  rw [List.reverse_cons, List.map_append] at hown
  have hlt : g < wr.heap.size := ownsRow_lt h.own rfl
  have hz := O2.size
  refine ⟨hM3, own_pop hown, by simpa using own3, fun k hk => ?_, fun k hk => ?_, h.inv.finish (it0 := .wt t) (fun a ha => ?_) (fun a ha => ?_) (fun a ha => ?_) (fun c hc => hc) trivial, ?_, fun a v hv => ?_⟩
  · have hk' : g = k := Option.some.inj hk
    subst hk'
    refine ⟨hg.1, hg.2.1, fun e => ?_⟩
    rw [List.length_append, List.length_singleton] at e
    rcases fresh3 g e with e | e
    · exact hg.2.2 e
    · omega
  · rw [List.length_append, List.length_singleton] at hk
    rcases fresh3 k hk with e | e
    · exact h.obL k e
    · have := M2.mp.lt
      have := M2.b.size
      omega
  · by_cases e : a = t.b
    · exact .inr e
    · rw [setM_ne _ _ e] at ha; exact .inl ha
  · by_cases e : a = t.b
    · exact .inr e
    · rw [setM_ne _ _ e] at ha; exact .inl ha
  · by_cases e : a = t.b
    · rw [e, setM_same]; rfl
    · rw [setM_ne _ _ e]; exact ha
  · rw [← h.po]
    simp [List.flatMap_cons, It.po]
  · unfold setM at hv
    split at hv
    · cases hv; exact .inl rfl
    · exact h.vB a v hv
/-- The part at the top is begun: its operands go onto the stack. -/
theorem PoI.exp {t : AT} {s : List It} {sa sa' la : Option Addr} {sc sc' lc : Nat} {L : List AT} {w2 w3 : World} (h : PoI w root bm (.fr t :: s) sa sc L la lc m wr) (M3 : OM w root bm (setM m t.b (.bool false)) w3)
    (own3 : w3.ownsRow 0 24 1 (.slice sa' (s.length + 1 + (kidsQ t).length) sc') (s.length + 1 + (kidsQ t).length) (((It.fr t :: s).reverse.map fun it => it.tree.ptr) ++ (kidsQ t).reverse.map AT.ptr))
    (hob : ∀ k, ownB (.slice sa' (s.length + 1 + (kidsQ t).length) sc') k → w.heap.size ≤ k ∧ k ≠ bm ∧ ¬ ownB (.slice la L.length lc) k) (ownL : w3.ownsRow 0 24 1 (.slice la L.length lc) L.length (L.map AT.ptr)) :
    PoI w root bm ((kidsQ t).map .fr ++ .wt t :: s) sa' sc' L la lc (setM m t.b (.bool false)) w3 := by
  have hn : m t.b = none := h.fr_none (its := [])
  have hlen : ((kidsQ t).map It.fr ++ .wt t :: s).length = s.length + 1 + (kidsQ t).length := by simp; omega
  have htn : t.nil? = false := (h.inv.sub (.fr t) (by simp)).2
  refine ⟨M3, ?_, ownL, ?_, h.obL, h.inv.expand kidsQ_ok (fun a ha => ?_) (fun a => ?_) (fun c hc => hc), ?_, fun a v hv => ?_⟩
  · rw [hlen]
    have e : ((kidsQ t).map It.fr ++ .wt t :: s).reverse.map (fun it => it.tree.ptr) = ((It.fr t :: s).reverse.map fun it => it.tree.ptr) ++ (kidsQ t).reverse.map AT.ptr := by
      simp [It.tree, List.map_reverse, Function.comp_def]
    rw [e]; exact own3
  · rw [hlen]; exact hob
  · by_cases e : a = t.b
    · rw [e, setM_same] at ha; cases ha
    · rw [setM_ne _ _ e] at ha; exact ha
  · by_cases e : a = t.b
    · rw [e, setM_same]; simp
    · rw [setM_ne _ _ e]; simp [e]
  · rw [← h.po, List.flatMap_append, List.flatMap_cons, List.flatMap_cons]
    have e : ((kidsQ t).map It.fr).flatMap It.po = (kidsQ t).flatMap postO := by rw [List.flatMap_map]; rfl
    rw [e]
    show L ++ ((kidsQ t).flatMap postO ++ ([t] ++ s.flatMap It.po)) = L ++ (postO t ++ s.flatMap It.po)
    rw [postO_kids htn, List.append_assoc]
  · unfold setM at hv
    split at hv
    · cases hv; exact .inr rfl
    · exact h.vB a v hv
end Go.Proofs.YtgnoikfmhncbmaaGreatDoor

namespace Go.Proofs.YtgnoikfmhncbmaaGreatDoor
open Go.RowKit
def PostP (root : AT) (w : World) (e : Ending) (w' : World) : Prop := ∃ la lc, e = .returned (.tuple #[.slice la (postO root).length lc, .bool true]) ∧ w'.ownsRow 0 24 1 (.slice la (postO root).length lc) (postO root).length ((postO root).map AT.ptr) ∧ (∀ k, ownB (.slice la (postO root).length lc) k → w.heap.size ≤ k) ∧ Below w.heap.size w w'
variable {w : World} {root : AT}
theorem own_pos {w : World} {e : TypeId} {n c : Nat} {sa : Option Addr} {xs : List Value} (h : w.ownsRow 0 e 1 (.slice sa n c) n xs) (hn : 0 < n) : ∃ g, sa = some ⟨g, 0, none⟩ ∧ n ≤ c ∧ ∀ j v, xs[j]? = some v → w.cell? ⟨g, j, none⟩ = some v := by
  cases n with
  | zero => omega
  | succ n => exact own_some h
set_option maxHeartbeats 4000000 in
set_option maxRecDepth 100000 in
theorem post_any (hn : root.nil? = false) (hA : root.At w) (hnd : root.addrs.Nodup) (hsz : root.size ≤ 20000000) : Calls Tryz.prog 42 #[root.ptr] w (PostP root w) := by
  generalize hpost : PostP root w = post
  have hf : ∀ la lc w', w'.ownsRow 0 24 1 (.slice la (postO root).length lc) (postO root).length ((postO root).map AT.ptr) → (∀ k, ownB (.slice la (postO root).length lc) k → w.heap.size ≤ k) → Below w.heap.size w w' → post (.returned (.tuple #[.slice la (postO root).length lc, .bool true])) w' := fun la lc w' h1 h2 h3 => by rw [← hpost]; exact ⟨la, lc, rfl, h1, h2, h3⟩
  clear hpost
  replace hf := Lib.hid hf
  have hlo : ∀ a ∈ root.addrs, a < w.heap.size := hA.lt
  have M1 : PM (w.alloc (.map #[] 0)) w.heap.size (fun _ => none) := PM.made w
  obtain ⟨W2, hW2⟩ : ∃ W2, W2 = (w.alloc (.map #[] 0)).alloc (.cells #[root.ptr] 24) := ⟨_, rfl⟩
  have hb2 : Below w.heap.size w W2 := by rw [hW2]; exact ((Below.refl _ _).alloc (Nat.le_refl _) _).alloc (by simp) _
  have hb12 : Below (w.alloc (.map #[] 0)).heap.size (w.alloc (.map #[] 0)) W2 := by rw [hW2]; exact (Below.refl _ _).alloc (Nat.le_refl _) _
  have HS : Has W2 (w.heap.size + 1) [root.ptr] 24 := by
    have := Has.new (w.alloc (.map #[] 0)) [root.ptr] 24; simp only [World.size_alloc] at this; rw [hW2]; exact this
  have hown : W2.ownsRow 0 24 1 (.slice (some ⟨w.heap.size + 1, 0, none⟩) 1 1) 1 [root.ptr] := ⟨rfl, .inr ⟨_, 1, _, rfl, Nat.zero_le _, HS, Nat.le_refl _, by decide, rfl, rfl⟩⟩
  have HI : PoI w root w.heap.size [.fr root] (some ⟨w.heap.size + 1, 0, none⟩) 1 [] none 0 (fun _ => none) W2 :=
    ⟨⟨hA.below hb2, M1.below hb12, hb2, hlo, fun a h => (by cases h), Nat.le_refl _⟩, hown, ⟨rfl, .inl ⟨rfl, rfl⟩⟩, fun k hk => by
      have : k = w.heap.size + 1 := (Option.some.inj hk).symm
      exact ⟨by omega, by omega, (fun h => by cases h)⟩, (fun k hk => by cases hk), StkI.start hn hnd (fun a h => (by cases h)) (fun a h => (by cases h)), by simp [It.po], fun a v h => (by cases h)⟩
  clear M1 hb12 HS hown hA hb2
  have hmm := @run_makeMap Tryz.prog
  have hpr := AT.ptr_b hn
  rw [hpr] at hW2 ⊢
  replace hpr := Lib.hid hpr
  replace hW2 := Lib.hid hW2.symm
  replace hlo := Lib.hid hlo
  go_enter Tryz.func42, Tryz.ntmps42
  go_wp2_with fail
  rw [hW2.out]
  clear hmm
  go_loopg [4, 6] (wkI [.fr root] + 1) (fun g lv sv wr => ∃ (its : List It) (sa : Option Addr) (sc : Nat) (L : List AT) (la : Option Addr) (lc : Nat) (m : Nat → Option Value), lv = .slice la L.length lc ∧ sv = .slice sa its.length sc ∧ PoI w root w.heap.size its sa sc L la lc m wr ∧ wkI its < g ∧ wkI its ≤ 40000000)
  case atStart => exact ⟨_, _, _, [], none, 0, _, rfl, rfl, HI, Nat.lt_succ_self _, by simp [wkI, It.wk]; omega⟩
  case round =>
    clear HI
    obtain ⟨its, sa, sc, L, la, lc, m, rfl, rfl, hI, hg, hg4⟩ := hrel
    cases its with
    | nil =>
      have hL : L = postO root := by have := hI.po; simpa using this
      have hfin := hI.ownL
      rw [hL] at hfin
      have hfin := hf.out la lc wr hfin (fun k hk => by rw [← hL] at hk; exact (hI.obL k hk).1) hI.om.b
      rw [← hL] at hfin
      replace hfin := Lib.hid hfin
      clear hI hL
      go_wp2_with fail
      first | exact hfin.out | (go_ret; exact hfin.out)
    | cons it s =>
      have hsub := hI.inv.sub it (by simp)
      obtain ⟨t, ht⟩ : ∃ t, it.tree = t := ⟨_, rfl⟩
      rw [ht] at hsub
      obtain ⟨hsub, hnt⟩ := hsub
      have hbm : t.b ∈ root.addrs := hsub.addrs t.b (AT.b_mem hnt)
      obtain ⟨g, rfl, hcap, hcell⟩ := own_some hI.own
      have hc0 : wr.cell? ⟨g, s.length, none⟩ = some (ptrV t.b) := hcell s.length _ (by
        rw [List.reverse_cons, List.map_append, List.getElem?_append_right (by simp)]
        simp [ht, AT.ptr_b hnt])
      have hl1 := lookB hI.om.mp (hI.om.at_.plain t.b hbm) true
      have q1 : decide ((0 : Int) < (s.length : Int) + 1) = true := decide_eq_true (by omega)
      have q2 : (0 : Int) ≤ (s.length : Int) := by omega
      have q3 : (s.length : Int) < (s.length : Int) + 1 := by omega
      have q4 : (s.length : Int) + 1 ≤ 40000000 := by
        have := len_wk (fun x hx => (hI.inv.sub x hx).2); simp only [List.length_cons] at this; omega
      have hwk : wkI (it :: s) = it.wk + wkI s := by simp [wkI]
      replace ht := Lib.hid ht
      clear hcell
      cases it with
      | wt u =>
        obtain rfl : u = t := ht.out
        have hmv := hI.wt_false
        rw [hmv] at hl1
        simp only [Option.getD_some, Option.isSome_some, if_true] at hl1
        obtain ⟨w3, hr3, M3, O3⟩ := hI.om.putB hbm (.bool true)
        have hL1 := hI.len
        have hby : (L.length + 1) * 8 ≤ 140737488355328 := by omega
        have own3 := ownsRow_only hI.ownL O3 (fun k hk e => (hI.obL k hk).2 e)
        have hwk2 : wkI s + 1 < gk ∧ wkI s ≤ 40000000 := by
          have h2 : It.wk (.wt u) = 1 := rfl
          omega
        have hup := AT.ptr_b hnt
        replace hI := Lib.hid hI
        replace hr3 := Lib.hid hr3
        replace M3 := Lib.hid M3
        replace O3 := Lib.hid O3
        replace hmv := Lib.hid hmv
        replace hwk := Lib.hid hwk
        replace hwk2 := Lib.hid hwk2
        replace hup := Lib.hid hup
        go_upto_region 12 with (refine wpList_updateM rfl (.tmp 37) (.tmp 38) _ 112 rfl hr3.out ?_)
        clear hl1 hc0
        simp only [Act.put]
        go_wp2_with (at_builtin; refine wpList_app1 rfl (.tmp 39) (.tmp 41) 113 rfl 24 (.pointer none) 8 Tryz.underlying113 infoPEx rfl (by decide) la L.length lc (L.map AT.ptr) rfl (ptrV u.b) _ w3 rfl rfl own3 _ rfl rfl rfl hby ?_)
        intro la' lc' w4 own4 only4 fresh4
        have hI4 : PoI w root w.heap.size s (some ⟨g, 0, none⟩) sc (L ++ [u]) la' lc' (setM m u.b (.bool true)) w4 := hI.out.fin M3.out O3.out (by rw [hup.out]; exact own4) only4 fresh4
        have hlen : (L ++ [u]).length = L.length + 1 := by simp
        replace hI4 := Lib.hid hI4
        replace hlen := Lib.hid hlen
        clear own4 only4 fresh4 own3
        go_wp2_with fail
        go_roundg (wkI s + 1)
        case measure => exact hwk2.out.1
        case rel => exact ⟨s, _, sc, L ++ [u], la', lc', _, by rw [hlen.out], rfl, hI4.out, Nat.lt_succ_self _, hwk2.out.2⟩
      | fr u =>
        obtain rfl : u = t := ht.out
        have hmv := hI.fr_none (its := [])
        rw [hmv] at hl1
        simp only [Option.getD_none, Option.isSome_none, if_true] at hl1
        obtain ⟨w3, hr3, M3, O3⟩ := hI.om.putB hbm (.bool false)
        cases u with
        | nil => cases hnt
        | node b op cc v l r =>
        have hAt : Has w3 b (exCells op l.ptr r.ptr cc v) 46 := (hsub.at M3.at_).1
        have hop := opnds_any b op cc v l r w3 hAt
        have hnd2 : (AT.node b op cc v l r).addrs.Nodup := (List.nodup_append.1 (show ((AT.node b op cc v l r).addrs ++ flatI s).Nodup from hI.inv.nd)).1
        have hkn := kidsQ_ok.nd hnt hnd2
        have hkl : ∀ c ∈ kidsQ (.node b op cc v l r), setM m b (.bool false) c.b = none ∧ c.b ∈ root.addrs ∧ c.ptr = ptrV c.b := fun c hc => by
          have hcn := kidsQ_ok.some hc
          have h1 := hI.inv.top_fr.2.2 c (fun a ha => kidsQ_ok.mem hc a ha) hcn
          have h2 : c.b ≠ b := fun e => (List.nodup_append.1 hkn).2.2 _ (List.mem_flatMap.2 ⟨c, hc, AT.b_mem hcn⟩) _ (List.mem_singleton.2 rfl) e
          refine ⟨?_, (kidsQ_ok.sub hc hsub).addrs _ (AT.b_mem hcn), AT.ptr_b hcn⟩
          rw [setM_ne _ _ h2]
          cases e : m c.b with
          | none => rfl
          | some x => exact absurd (by rw [e]; rfl) h1.2
        have hkids := kidsQ_len (.node b op cc v l r)
        have hks := kidsQ_ok.size hnt
        have hwx : wkI ((kidsQ (.node b op cc v l r)).map .fr ++ .wt (.node b op cc v l r) :: s) + 1 < gk ∧ wkI ((kidsQ (.node b op cc v l r)).map .fr ++ .wt (.node b op cc v l r) :: s) ≤ 40000000 := by
          have e1 : wkI ((kidsQ (.node b op cc v l r)).map .fr ++ .wt (.node b op cc v l r) :: s) = 2 * ((kidsQ (.node b op cc v l r)).map AT.size).sum + (1 + wkI s) := by
            rw [wk_app, wk_fr]; simp [wkI, It.wk]
          have e2 : It.wk (.fr (.node b op cc v l r)) = 2 * (AT.node b op cc v l r).size := rfl
          omega
        have hexp := fun (sa' : Option Addr) (sc' : Nat) (w5 : World) => hI.exp (sa' := sa') (sc' := sc') (w2 := w5) (w3 := w5)
        have hown3 := ownsRow_only hI.own O3 (fun k hk e => (hI.ob k hk).2.1 e)
        have hownL3 := ownsRow_only hI.ownL O3 (fun k hk e => (hI.obL k hk).2 e)
        obtain ⟨Ls, hLs⟩ : ∃ Ls, (It.fr (.node b op cc v l r) :: s).reverse.map (fun it => it.tree.ptr) = Ls := ⟨_, rfl⟩
        obtain ⟨kt, hkt⟩ : ∃ kt, kidsQ (.node b op cc v l r) = kt := ⟨_, rfl⟩
        rw [hkt] at hop hkl hkids hwx hexp
        rw [hLs] at hown3 hexp
        have hob := hI.ob
        have hobL := hI.obL
        have hz3 := O3.size
        replace hI := Lib.hid hI
        replace hop := Lib.hid hop
        replace hkl := Lib.hid hkl
        replace hLs := Lib.hid hLs
        replace hkt := Lib.hid hkt
        replace hexp := Lib.hid hexp
        replace hob := Lib.hid hob
        replace hobL := Lib.hid hobL
        replace hwx := Lib.hid hwx
        replace hwk := Lib.hid hwk
        replace hr3 := Lib.hid hr3
        replace M3 := Lib.hid M3
        replace O3 := Lib.hid O3
        replace hks := Lib.hid hks
        replace hkn := Lib.hid hkn
        replace hmv := Lib.hid hmv
        clear hnd2 hAt
        go_upto_region 15 with (refine wpList_updateM rfl (.tmp 48) (.tmp 49) _ 112 rfl hr3.out ?_)
        clear hl1 hc0
        simp only [Act.put]
        go_wp2_with fail
        refine hop.out.mono ?_
        rintro e w4 ⟨ka, kc, rfl, ownK, hobK, hb4⟩
        have M4 := M3.out.below hb4
        have own4 := ownsRow_only hown3 (Only.of_below hb4) (fun k hk e => by have := ownsRow_lt hown3 hk; omega)
        have ownL4 := ownsRow_only hownL3 (Only.of_below hb4) (fun k hk e => by have := ownsRow_lt hownL3 hk; omega)
        have hobS : ∀ k, ownB (.slice (some ⟨g, 0, none⟩) (s.length + 1) sc) k → w.heap.size ≤ k ∧ k ≠ w.heap.size ∧ ¬ ownB (.slice la L.length lc) k ∧ ¬ ownB (.slice ka kt.length kc) k := fun k hk => by
          obtain ⟨g1, g2, g3⟩ := hob.out k hk
          refine ⟨g1, g2, g3, fun e => ?_⟩
          have := hobK k e
          have := ownsRow_lt hown3 hk
          omega
        clear hown3 hownL3
        obtain ⟨nk, hnk⟩ : ∃ nk, kt.length = nk := ⟨_, rfl⟩
        rw [hnk] at ownK hobK hobS hkids
        have hobS' : (∀ k, ownB (.slice (some ⟨g, 0, none⟩) (s.length + 1 + 0) sc) k → w.heap.size ≤ k ∧ k ≠ w.heap.size ∧ ¬ ownB (.slice la L.length lc) k ∧ ¬ ownB (.slice ka nk kc) k) := hobS
        have hstart : w4.ownsRow 0 24 1 (.slice (some ⟨g, 0, none⟩) (s.length + 1 + 0) sc) (s.length + 1 + 0) (Ls ++ (kt.reverse.map AT.ptr).take 0) := by
          simpa using own4
        have hLl : L.length ≤ 140737488355328 := Nat.le_trans (hI.out.len) (by omega)
        replace hnk := Lib.hid hnk
        replace hobK := Lib.hid hobK
        replace hobS := Lib.hid hobS
        clear own4
        rw [hnk.out]
        go_wp2_with fail
        go_loopw [6, 11] (fun sv iv wq => ∃ (i j : Nat) (sa' : Option Addr) (sc' : Nat), i + j = nk ∧ iv = .int .i64 ((i : Int) - 1) ∧ sv = .slice sa' (s.length + 1 + j) sc' ∧ OM w root w.heap.size (setM m b (.bool false)) wq ∧ wq.ownsRow 0 24 1 (.slice sa' (s.length + 1 + j) sc') (s.length + 1 + j) (Ls ++ (kt.reverse.map AT.ptr).take j) ∧
          (∀ k, ownB (.slice sa' (s.length + 1 + j) sc') k → w.heap.size ≤ k ∧ k ≠ w.heap.size ∧ ¬ ownB (.slice la L.length lc) k ∧ ¬ ownB (.slice ka nk kc) k) ∧ wq.ownsRow 0 24 1 (.slice la L.length lc) L.length (L.map AT.ptr) ∧ wq.ownsRow 0 24 1 (.slice ka nk kc) nk (kt.map AT.ptr)) (fun _ iv _ => (intOf iv + 1).toNat)
        case atStart => exact ⟨nk, 0, _, sc, rfl, rfl, rfl, M4, hstart, hobS', ownL4, ownK⟩
        case round =>
          clear M4 hstart hobS' ownL4 ownK hb4
          obtain ⟨i, j, sa', sc', hij, rfl, rfl, hM, hown, hob2, hownL, hownK⟩ := hrel
          cases i with
          | zero =>
            have hjk : j = nk := by omega
            subst hjk
            have hI5 := hexp.out sa' sc' wr hM (by rw [hnk.out]; rw [List.take_of_length_le (by rw [List.length_map, List.length_reverse, hnk.out]; exact Nat.le_refl _)] at hown; exact hown) (fun k hk => by
              rw [hnk.out] at hk
              obtain ⟨g1, g2, g3, _⟩ := hob2 k hk
              exact ⟨g1, g2, g3⟩) hownL
            have hlen : (kt.map It.fr ++ .wt (.node b op cc v l r) :: s).length = s.length + 1 + j := by rw [List.length_append, List.length_map, hnk.out, List.length_cons]; omega
            rw [show (((0 : Nat) : Int) - 1) = -1 from rfl]
            have hd : decide ((0 : Int) ≤ -1) = false := rfl
            replace hI5 := Lib.hid hI5
            replace hlen := Lib.hid hlen
            clear hM hown hob2 hownL hownK
            go_wp2_with fail
            go_roundg (wkI (kt.map .fr ++ .wt (.node b op cc v l r) :: s) + 1)
            case measure => exact hwx.out.1
            case rel => exact ⟨_, sa', sc', L, la, lc, _, rfl, by rw [hlen.out], hI5.out, Nat.lt_succ_self _, hwx.out.2⟩
          | succ i =>
            rw [show (((i + 1 : Nat) : Int) - 1) = (i : Int) by omega]
            obtain ⟨c, hc⟩ : ∃ c, kt[i]? = some c := ⟨_, List.getElem?_eq_getElem (by rw [hnk.out]; omega)⟩
            obtain ⟨k1, k2, k3⟩ := hkl.out c (List.mem_of_getElem? hc)
            obtain ⟨gk2, rfl, hkc, hkcell⟩ := own_pos hownK (by omega)
            have cK : wr.cell? ⟨gk2, i, none⟩ = some (ptrV c.b) := hkcell i _ (by rw [List.getElem?_map, hc, ← k3]; rfl)
            have hl2 := lookB hM.mp (hM.at_.plain c.b k2) true
            rw [k1] at hl2
            simp only [Option.getD_none, Option.isSome_none, if_true] at hl2
            have i0 : (0 : Int) ≤ (i : Int) := by omega
            have i2 : (i : Int) < (nk : Int) := by omega
            have hd : decide ((0 : Int) ≤ (i : Int)) = true := decide_eq_true i0
            have htake : (kt.reverse.map AT.ptr).take (j + 1) = (kt.reverse.map AT.ptr).take j ++ [ptrV c.b] := by
              rw [List.take_add_one]
              congr 1
              rw [List.getElem?_map, List.getElem?_reverse (by rw [hnk.out]; omega), hnk.out, show nk - 1 - j = i by omega, hc]
              simp [k3]
            have hby : (s.length + 1 + j + 1) * 8 ≤ 140737488355328 := by omega
            have hnx : ∀ sa2 sc2 w5, w5.ownsRow 0 24 1 (.slice sa2 (s.length + 1 + j + 1) sc2) (s.length + 1 + j + 1) ((Ls ++ (kt.reverse.map AT.ptr).take j) ++ [ptrV c.b]) → Only (fun k => Value.ownBlock (.slice sa' (s.length + 1 + j) sc') = some k) wr w5 →
                (∀ k, Value.ownBlock (.slice sa2 (s.length + 1 + j + 1) sc2) = some k → Value.ownBlock (.slice sa' (s.length + 1 + j) sc') = some k ∨ wr.heap.size ≤ k) →
                ∃ (i' j' : Nat) (sa' : Option Addr) (sc' : Nat), i' + j' = nk ∧ Value.int .i64 ((i : Int) - 1) = .int .i64 ((i' : Int) - 1) ∧ Value.slice sa2 (s.length + 1 + j + 1) sc2 = .slice sa' (s.length + 1 + j') sc' ∧ OM w root w.heap.size (setM m b (.bool false)) w5 ∧ w5.ownsRow 0 24 1 (.slice sa' (s.length + 1 + j') sc') (s.length + 1 + j') (Ls ++ (kt.reverse.map AT.ptr).take j') ∧
                  (∀ k, ownB (.slice sa' (s.length + 1 + j') sc') k → w.heap.size ≤ k ∧ k ≠ w.heap.size ∧ ¬ ownB (.slice la L.length lc) k ∧ ¬ ownB (.slice (some ⟨gk2, 0, none⟩) nk kc) k) ∧ w5.ownsRow 0 24 1 (.slice la L.length lc) L.length (L.map AT.ptr) ∧ w5.ownsRow 0 24 1 (.slice (some ⟨gk2, 0, none⟩) nk kc) nk (kt.map AT.ptr) := fun sa2 sc2 w5 own2 only2 fresh2 => by
              refine ⟨i, j + 1, sa2, sc2, by omega, rfl, rfl, hM.only only2 (fun k hk hs => ?_), ?_, fun k hk => ?_, ownsRow_only hownL only2 (fun k hk e => (hob2 k e).2.2.1 hk), ownsRow_only hownK only2 (fun k hk e => (hob2 k e).2.2.2 hk)⟩
              · obtain ⟨g1, g2, _⟩ := hob2 k hs
                exact ⟨g1, g2⟩
              · rw [htake, ← List.append_assoc]; exact own2
              · rcases fresh2 k hk with h | h
                · exact hob2 k h
                · have h1 := hM.b.size
                  have h2 := hM.mp.lt
                  refine ⟨by omega, by omega, fun e => ?_, fun e => ?_⟩
                  · have := ownsRow_lt hownL e; omega
                  · have := ownsRow_lt hownK e; omega
            replace hnx := Lib.hid hnx
            replace htake := Lib.hid htake
            replace hc := Lib.hid hc
            clear hM hob2 hownL hownK hkcell k1 k2 k3
            go_wp2_with (at_builtin; refine wpList_app1 rfl (.tmp 75) (.tmp 80) 113 rfl 24 (.pointer none) 8 Tryz.underlying113 infoPEx rfl (by decide) sa' (s.length + 1 + j) sc' (Ls ++ (kt.reverse.map AT.ptr).take j) rfl (ptrV c.b) _ wr rfl rfl hown _ rfl rfl rfl hby ?_)
            intro sa2 sc2 w5 own2 only2 fresh2
            have hfin := Lib.hid (hnx.out sa2 sc2 w5 (by have h := own2; first | exact h | (rw [← List.append_assoc, ← List.map_reverse] at h; exact h)) only2 fresh2)
            clear own2 only2 fresh2 hl2 hown cK
            go_wp2_with fail
            exact ⟨hfin.out, by simp [intOf]⟩
end Go.Proofs.YtgnoikfmhncbmaaGreatDoor
