/- Plain: the undo log on a device of ten lines, its crash images, and recovery. -/
import Derived.Test.YtjmdibgncaljaaaUA
namespace Go.Proofs.Ytjmdibgncaljaaa.Dev
open Go.RowKit
def cntX (x : List Nat) : Nat := if 8 < x.getD 0 0 then 0 else x.getD 0 0
def savedX (x : List Nat) : List (Nat × Nat) := (List.range (cntX x)).map fun i => (x.getD (8 + 2 * i) 0, x.getD (9 + 2 * i) 0)
def okOff (o : Nat) : Bool := decide (o % 8 = 0 ∧ 192 ≤ o ∧ o < 640)
def wsX (x : List Nat) : List (Nat × Nat) := (savedX x).filter fun e => okOff e.1
/-- What recovery makes of the words of a device. -/
def recX (x : List Nat) : List Nat := if savedX x = [] then x else ((wsX x).foldl setA x).set 0 0
def Good (x : List Nat) (f : Nat → Nat) : Prop := ∀ o, o % 8 = 0 → 192 ≤ o → o < 640 → (recX x).getD (o / 8) 0 = f o
/-- Every crash image recovers to the old words, or to the new ones. -/
def Rec (R : Dv) (old new : Nat → Nat) (b a : Bool) : Prop := ∀ kf : Nat → Nat, (∀ l, kf l ≤ (R.line l).hist.length) → (b = true ∧ Good (crashW R kf) old) ∨ (a = true ∧ Good (crashW R kf) new)
theorem fold_set (old : Nat → Nat) (o : Nat) (ho : o % 8 = 0) : ∀ (l : List (Nat × Nat)) (x : List Nat), (∀ e ∈ l, e.1 % 8 = 0 ∧ e.1 / 8 < x.length ∧ e.2 = old e.1) → (o ∈ l.map Prod.fst ∨ x.getD (o / 8) 0 = old o) → (l.foldl setA x).getD (o / 8) 0 = old o
  | [], x, _, h => h.resolve_left (by simp)
  | e :: l, x, he, h => by
    obtain ⟨h1, h2, h3⟩ := he e (List.mem_cons_self ..)
    rw [List.foldl_cons]
    refine fold_set old o ho l (setA x e) (fun y hy => ?_) ?_
    · obtain ⟨g1, g2, g3⟩ := he y (List.mem_cons_of_mem _ hy)
      exact ⟨g1, by unfold setA; rw [List.length_set]; exact g2, g3⟩
    · by_cases hm : o ∈ l.map Prod.fst
      · exact .inl hm
      · right
        unfold setA
        by_cases e0 : o = e.1
        · subst e0
          rw [getD_set _ _ _ _ _ h2, if_pos rfl, h3]
        · rw [getD_set _ _ _ _ _ h2, if_neg (by omega)]
          rcases h with h | h
          · rw [List.map_cons, List.mem_cons] at h
            rcases h with h | h
            · exact absurd h e0
            · exact absurd h hm
          · exact h
/-- A round of the undo log before its commit: E are the entries that lie there, n of them are counted for sure; C are the counts that a crash image may hold. -/
structure Und (R : Dv) (old : Nat → Nat) (E : List (Nat × Nat)) (n : Nat) (C : List Nat) : Prop where
  lv : Live R
  len : R.lines.length = 10
  cnt : InV R 0 C
  cn : ∀ c ∈ C, n ≤ c ∧ c ≤ E.length
  e8 : E.length ≤ 8
  ent : ∀ i e, E[i]? = some e → InV R (64 + 16 * i) [e.1] ∧ InV R (72 + 16 * i) [e.2]
  ok : ∀ e ∈ E, okOff e.1 = true ∧ e.2 = old e.1
  dat : ∀ o, o % 8 = 0 → 192 ≤ o → o < 640 → o ∉ (E.take n).map Prod.fst → InV R o [old o]
theorem okOff_iff {o : Nat} : okOff o = true ↔ o % 8 = 0 ∧ 192 ≤ o ∧ o < 640 := by unfold okOff; exact decide_eq_true_iff
section
variable {R : Dv} {old new : Nat → Nat} {E : List (Nat × Nat)} {n T : Nat} {C : List Nat}
/-- What recovery reads in a crash image. -/
theorem reads' (hl : R.lines.length = 10) (e8 : E.length ≤ 8) (hent : ∀ i e, E[i]? = some e → InV R (64 + 16 * i) [e.1] ∧ InV R (72 + 16 * i) [e.2]) (hok : R.Ok T) {kf : Nat → Nat} (hk : ∀ l, kf l ≤ (R.line l).hist.length) {c : Nat} (hc : (crashW R kf).getD 0 0 = c) (hce : c ≤ E.length) : savedX (crashW R kf) = E.take c := by
  have h0 : cntX (crashW R kf) = c := by unfold cntX; rw [hc, if_neg (by omega)]
  unfold savedX
  rw [h0]
  apply List.ext_getElem?
  intro i
  rcases Nat.lt_or_ge i c with hi | hi
  · have hiE : i < E.length := by omega
    have he : E[i]? = some E[i] := List.getElem?_eq_getElem hiE
    obtain ⟨h1, h2⟩ := hent i _ he
    have g1 := h1.crash hok kf hk (by omega)
    have g2 := h2.crash hok kf hk (by omega)
    rw [show (64 + 16 * i) / 8 = 8 + 2 * i by omega, List.mem_singleton] at g1
    rw [show (72 + 16 * i) / 8 = 9 + 2 * i by omega, List.mem_singleton] at g2
    rw [List.getElem?_map, List.getElem?_range hi, List.getElem?_take_of_lt hi, he]
    simp only [Option.map_some, g1, g2]
  · rw [List.getElem?_eq_none (by simp; omega), List.getElem?_eq_none (by rw [List.length_take]; omega)]
theorem Und.good' (hl : R.lines.length = 10) (e8 : E.length ≤ 8) (hent : ∀ i e, E[i]? = some e → InV R (64 + 16 * i) [e.1] ∧ InV R (72 + 16 * i) [e.2]) (hoe : ∀ e ∈ E, okOff e.1 = true ∧ e.2 = old e.1)
    (hdat : ∀ o, o % 8 = 0 → 192 ≤ o → o < 640 → o ∉ (E.take n).map Prod.fst → InV R o [old o]) (hok : R.Ok T) {kf : Nat → Nat} (hk : ∀ l, kf l ≤ (R.line l).hist.length) {c : Nat} (hc : (crashW R kf).getD 0 0 = c) (hcn : n ≤ c ∧ c ≤ E.length) : Good (crashW R kf) old := by
  intro o h8 h1 h2
  have hs := reads' hl e8 hent hok hk hc hcn.2
  have hlen : (crashW R kf).length = 80 := by rw [crashW_len hok, hl]
  have hin : o ∉ (E.take n).map Prod.fst → (crashW R kf).getD (o / 8) 0 = old o := fun hn => List.mem_singleton.1 ((hdat o h8 h1 h2 hn).crash hok kf hk (by omega))
  unfold recX
  split
  · rename_i he
    refine hin (fun hm => ?_)
    rw [hs] at he
    have : E.take n = [] := by
      have e1 : (E.take c).length = 0 := by rw [he]; rfl
      rw [List.length_take] at e1
      exact List.length_eq_zero_iff.1 (by rw [List.length_take]; omega)
    rw [this] at hm; cases hm
  · have hw : wsX (crashW R kf) = E.take c := by
      unfold wsX
      rw [hs, List.filter_eq_self]
      exact fun e he => (hoe e (List.mem_of_mem_take he)).1
    rw [hw]
    have hall : ∀ e ∈ E.take c, e.1 % 8 = 0 ∧ e.1 / 8 < (crashW R kf).length ∧ e.2 = old e.1 := fun e he => by
      obtain ⟨g1, g2⟩ := hoe e (List.mem_of_mem_take he)
      have g3 := okOff_iff.1 g1
      exact ⟨g3.1, by omega, g2⟩
    rw [List.getD, List.getElem?_set_ne (by omega)]
    refine fold_set old o h8 (E.take c) _ hall ?_
    by_cases hm : o ∈ (E.take c).map Prod.fst
    · exact .inl hm
    · refine .inr (hin (fun hm' => hm ?_))
      obtain ⟨e, he, hh⟩ := List.mem_map.1 hm'
      refine List.mem_map.2 ⟨e, ?_, hh⟩
      have : E.take n = (E.take c).take n := by rw [List.take_take, Nat.min_eq_left hcn.1]
      rw [this] at he
      exact List.mem_of_mem_take he
theorem Und.good (h : Und R old E n C) (hok : R.Ok T) {kf : Nat → Nat} (hk : ∀ l, kf l ≤ (R.line l).hist.length) {c : Nat} (hc : (crashW R kf).getD 0 0 = c) (hcn : n ≤ c ∧ c ≤ E.length) : Good (crashW R kf) old :=
  Und.good' h.len h.e8 h.ent h.ok h.dat hok hk hc hcn
theorem Und.recd (h : Und R old E n C) (hok : R.Ok T) (new : Nat → Nat) (a : Bool) : Rec R old new true a := fun kf hk => by
  have hl := h.len
  have hc := h.cnt.crash hok kf hk (by omega)
  exact .inl ⟨rfl, h.good hok hk rfl (h.cn _ hc)⟩
theorem Und.entry (h : Und R old E n C) {off v i : Nat} (ho : off = 64 + 16 * i ∨ off = 72 + 16 * i) (hi : E.length ≤ i) (h8 : i < 8) : Und (storeP R 0 off v) old E n C := by
  have hl := h.len
  have a1 : off % 8 = 0 := by omega
  have a2 : off < 64 * R.lines.length := by omega
  obtain ⟨r1, _, r3⟩ := store_rest h.lv (v := v) a1 a2
  refine ⟨r3, r1.trans hl, h.cnt.store_ne h.lv a1 a2 (by omega) (by omega), h.cn, h.e8, fun j e he => ?_, h.ok, fun o b1 b2 b3 b4 => (h.dat o b1 b2 b3 b4).store_ne h.lv a1 a2 b1 (by omega)⟩
  have hj : j < E.length := by
    rcases Nat.lt_or_ge j E.length with g | g
    · exact g
    · rw [List.getElem?_eq_none g] at he; cases he
  obtain ⟨g1, g2⟩ := h.ent j e he
  exact ⟨g1.store_ne h.lv a1 a2 (by omega) (by omega), g2.store_ne h.lv a1 a2 (by omega) (by omega)⟩
theorem Und.data (h : Und R old E n C) {off v : Nat} (ho : okOff off = true) (hm : off ∈ (E.take n).map Prod.fst) : Und (storeP R 0 off v) old E n C := by
  have hl := h.len
  obtain ⟨a1, a3, a4⟩ := okOff_iff.1 ho
  have a2 : off < 64 * R.lines.length := by omega
  have e8 := h.e8
  obtain ⟨r1, _, r3⟩ := store_rest h.lv (v := v) a1 a2
  refine ⟨r3, r1.trans hl, h.cnt.store_ne h.lv a1 a2 (by omega) (by omega), h.cn, h.e8, fun j e he => ?_, h.ok, fun o b1 b2 b3 b4 => (h.dat o b1 b2 b3 b4).store_ne h.lv a1 a2 b1 (fun e => b4 (e ▸ hm))⟩
  have hj : j < E.length := by
    rcases Nat.lt_or_ge j E.length with g | g
    · exact g
    · rw [List.getElem?_eq_none g] at he; cases he
  obtain ⟨g1, g2⟩ := h.ent j e he
  exact ⟨g1.store_ne h.lv a1 a2 (by omega) (by omega), g2.store_ne h.lv a1 a2 (by omega) (by omega)⟩
theorem Und.count (h : Und R old E n C) {c : Nat} (hc : n ≤ c ∧ c ≤ E.length) : Und (storeP R 0 0 c) old E n (C ++ [c]) := by
  have hl := h.len
  have e8 := h.e8
  have a2 : 0 < 64 * R.lines.length := by omega
  obtain ⟨r1, _, r3⟩ := store_rest h.lv (v := c) (off := 0) rfl a2
  refine ⟨r3, r1.trans hl, h.cnt.store_eq h.lv rfl a2, fun d hd => ?_, h.e8, fun j e he => ?_, h.ok, fun o b1 b2 b3 b4 => (h.dat o b1 b2 b3 b4).store_ne h.lv rfl a2 b1 (by omega)⟩
  · rcases List.mem_append.1 hd with g | g
    · exact h.cn d g
    · rw [List.mem_singleton.1 g]; exact hc
  · obtain ⟨g1, g2⟩ := h.ent j e he
    exact ⟨g1.store_ne h.lv rfl a2 (by omega) (by omega), g2.store_ne h.lv rfl a2 (by omega) (by omega)⟩
theorem Und.flush (h : Und R old E n C) {off : Nat} (ho : off < 640) : Und (flushP R 0 off) old E n C := by
  have hl := h.len
  have a2 : off < 64 * R.lines.length := by omega
  obtain ⟨r1, r2, _⟩ := flush_rest h.lv a2
  exact ⟨r2, by rw [r1]; exact hl, h.cnt.flush h.lv a2, h.cn, h.e8, fun j e he => ⟨(h.ent j e he).1.flush h.lv a2, (h.ent j e he).2.flush h.lv a2⟩, h.ok, fun o b1 b2 b3 b4 => (h.dat o b1 b2 b3 b4).flush h.lv a2⟩
theorem Und.fence (h : Und R old E n C) : Und (fenceP R 0) old E n C := by
  obtain ⟨r1, r2, _⟩ := fence_rest h.lv
  exact ⟨r2, r1.trans h.len, h.cnt.fence h.lv, h.cn, h.e8, fun j e he => ⟨(h.ent j e he).1.fence h.lv, (h.ent j e he).2.fence h.lv⟩, h.ok, fun o b1 b2 b3 b4 => (h.dat o b1 b2 b3 b4).fence h.lv⟩
/-- New entries have become persistent. -/
theorem Und.more (h : Und R old E n C) {Fr : List (Nat × Nat)} (h8 : E.length + Fr.length ≤ 8) (hn : n ≤ E.length) (hent : ∀ i e, Fr[i]? = some e → InV R (64 + 16 * (E.length + i)) [e.1] ∧ InV R (72 + 16 * (E.length + i)) [e.2]) (hok : ∀ e ∈ Fr, okOff e.1 = true ∧ e.2 = old e.1) : Und R old (E ++ Fr) n C := by
  refine ⟨h.lv, h.len, h.cnt, fun c hc => ?_, by rw [List.length_append]; exact h8, fun i e he => ?_, fun e he => ?_, fun o b1 b2 b3 b4 => h.dat o b1 b2 b3 ?_⟩
  · have := h.cn c hc
    rw [List.length_append]; omega
  · rcases Nat.lt_or_ge i E.length with g | g
    · rw [List.getElem?_append_left g] at he; exact h.ent i e he
    · rw [List.getElem?_append_right g] at he
      have := hent _ e he
      rwa [show E.length + (i - E.length) = i by omega] at this
  · rcases List.mem_append.1 he with g | g
    · exact h.ok e g
    · exact hok e g
  · rwa [List.take_append_of_le_length hn] at b4
theorem Und.up (h : Und R old E n C) {m : Nat} (hm : n ≤ m ∧ m ≤ E.length) (hc : InV R 0 [m]) : Und R old E m [m] := by
  refine ⟨h.lv, h.len, hc, fun c hc => by rw [List.mem_singleton.1 hc]; exact ⟨Nat.le_refl _, hm.2⟩, h.e8, h.ent, h.ok, fun o b1 b2 b3 b4 => h.dat o b1 b2 b3 (fun hx => b4 ?_)⟩
  obtain ⟨e, he, hh⟩ := List.mem_map.1 hx
  refine List.mem_map.2 ⟨e, ?_, hh⟩
  have : E.take n = (E.take m).take n := by rw [List.take_take, Nat.min_eq_left hm.1]
  rw [this] at he
  exact List.mem_of_mem_take he
/-- The commit: the words have their new values for sure; the count may be 0 or as before. -/
structure Com (R : Dv) (old new : Nat → Nat) (E : List (Nat × Nat)) (n : Nat) (C : List Nat) : Prop where
  lv : Live R
  len : R.lines.length = 10
  cnt : InV R 0 C
  cn : ∀ c ∈ C, c = 0 ∨ (n ≤ c ∧ c ≤ E.length)
  e8 : E.length ≤ 8
  ent : ∀ i e, E[i]? = some e → InV R (64 + 16 * i) [e.1] ∧ InV R (72 + 16 * i) [e.2]
  ok : ∀ e ∈ E, okOff e.1 = true ∧ e.2 = old e.1
  dat : ∀ o, o % 8 = 0 → 192 ≤ o → o < 640 → o ∉ (E.take n).map Prod.fst → InV R o [old o]
  nw : ∀ o, o % 8 = 0 → 192 ≤ o → o < 640 → InV R o [new o]
theorem Und.com (h : Und R old E n C) (hn : ∀ o, o % 8 = 0 → 192 ≤ o → o < 640 → InV R o [new o]) : Com R old new E n C :=
  ⟨h.lv, h.len, h.cnt, fun c hc => .inr (h.cn c hc), h.e8, h.ent, h.ok, h.dat, hn⟩
theorem Com.zero (h : Com R old new E n C) : Com (storeP R 0 0 0) old new E n (C ++ [0]) := by
  have hl := h.len
  have e8 := h.e8
  have a2 : 0 < 64 * R.lines.length := by omega
  obtain ⟨r1, _, r3⟩ := store_rest h.lv (v := 0) (off := 0) rfl a2
  refine ⟨r3, r1.trans hl, h.cnt.store_eq h.lv rfl a2, fun d hd => ?_, h.e8, fun j e he => ?_, h.ok, fun o b1 b2 b3 b4 => (h.dat o b1 b2 b3 b4).store_ne h.lv rfl a2 b1 (by omega), fun o b1 b2 b3 => (h.nw o b1 b2 b3).store_ne h.lv rfl a2 b1 (by omega)⟩
  · rcases List.mem_append.1 hd with g | g
    · exact h.cn d g
    · exact .inl (List.mem_singleton.1 g)
  · obtain ⟨g1, g2⟩ := h.ent j e he
    exact ⟨g1.store_ne h.lv rfl a2 (by omega) (by omega), g2.store_ne h.lv rfl a2 (by omega) (by omega)⟩
theorem Com.flush (h : Com R old new E n C) {off : Nat} (ho : off < 640) : Com (flushP R 0 off) old new E n C := by
  have hl := h.len
  have a2 : off < 64 * R.lines.length := by omega
  obtain ⟨r1, r2, _⟩ := flush_rest h.lv a2
  exact ⟨r2, by rw [r1]; exact hl, h.cnt.flush h.lv a2, h.cn, h.e8, fun j e he => ⟨(h.ent j e he).1.flush h.lv a2, (h.ent j e he).2.flush h.lv a2⟩, h.ok, fun o b1 b2 b3 b4 => (h.dat o b1 b2 b3 b4).flush h.lv a2, fun o b1 b2 b3 => (h.nw o b1 b2 b3).flush h.lv a2⟩
theorem Com.fence (h : Com R old new E n C) : Com (fenceP R 0) old new E n C := by
  obtain ⟨r1, r2, _⟩ := fence_rest h.lv
  exact ⟨r2, r1.trans h.len, h.cnt.fence h.lv, h.cn, h.e8, fun j e he => ⟨(h.ent j e he).1.fence h.lv, (h.ent j e he).2.fence h.lv⟩, h.ok, fun o b1 b2 b3 b4 => (h.dat o b1 b2 b3 b4).fence h.lv, fun o b1 b2 b3 => (h.nw o b1 b2 b3).fence h.lv⟩
theorem Com.recd (h : Com R old new E n C) (hok : R.Ok T) : Rec R old new true true := fun kf hk => by
  have hl := h.len
  have hc := h.cnt.crash hok kf hk (by omega)
  rcases h.cn _ hc with g | g
  · refine .inr ⟨rfl, fun o h8 h1 h2 => ?_⟩
    have hs : savedX (crashW R kf) = [] := by
      unfold savedX cntX
      rw [show (crashW R kf).getD (0 / 8) 0 = (crashW R kf).getD 0 0 from rfl] at g
      rw [g]; rfl
    unfold recX
    rw [if_pos hs]
    exact List.mem_singleton.1 ((h.nw o h8 h1 h2).crash hok kf hk (by omega))
  · exact .inl ⟨rfl, Und.good' h.len h.e8 h.ent h.ok h.dat hok hk rfl g⟩
/-- The commit is done: the next round begins. -/
theorem Com.next (h : Com R old new E n C) (h0 : InV R 0 [0]) : Und R new [] 0 [0] :=
  ⟨h.lv, h.len, h0, fun c hc => (by rw [List.mem_singleton.1 hc]; exact ⟨Nat.le_refl _, Nat.zero_le _⟩), Nat.zero_le _, fun i e he => (by cases he), fun e he => (by cases he), fun o b1 b2 b3 _ => h.nw o b1 b2 b3⟩
end
end Go.Proofs.Ytjmdibgncaljaaa.Dev
