/- Plain: the programs of the undo log, instruction by instruction. -/
import Derived.Test.YtjmdibgncaljaaaUB
import Derived.Test.YtjmdibgncaljaaaP12
namespace Go.Proofs.Ytjmdibgncaljaaa
open Go.RowKit Dev
def stI (p : Nat × Nat) : In := ⟨1, p.1, p.2⟩
def flI (o : Nat) : In := ⟨2, o, 0⟩
def feI : In := ⟨3, 0, 0⟩
/-- Stores, a flush of each line, a fence. -/
def storesI (ws : List (Nat × Nat)) (fl : List Nat) : List In := ws.map stI ++ fl.map flI ++ [feI]
theorem devI_st (R : Dv) (p : Nat × Nat) : devI R (stI p) = storeP R 0 p.1 p.2 := rfl
theorem devI_fl (R : Dv) (o : Nat) : devI R (flI o) = flushP R 0 o := rfl
theorem devI_fe (R : Dv) : devI R feI = fenceP R 0 := rfl
/-- P holds before, between and after the instructions. -/
def AllI (P : Dv → Prop) (R : Dv) (l : List In) : Prop := ∀ k, k ≤ l.length → P ((l.take k).foldl devI R)
theorem AllI.app {P : Dv → Prop} {R : Dv} {a b : List In} (ha : AllI P R a) (hb : AllI P (a.foldl devI R) b) : AllI P R (a ++ b) := by
  intro k hk
  rcases Nat.le_total k a.length with h | h
  · rw [List.take_append_of_le_length h]; exact ha k h
  · obtain ⟨j, rfl⟩ := Nat.exists_eq_add_of_le h
    rw [List.take_length_add_append, List.foldl_append]
    refine hb j ?_
    rw [List.length_append] at hk; omega
theorem AllI.mono {P Q : Dv → Prop} {R : Dv} {l : List In} (h : AllI P R l) (hpq : ∀ R, P R → Q R) : AllI Q R l := fun k hk => hpq _ (h k hk)
theorem AllI.nil {P : Dv → Prop} {R : Dv} (h : P R) : AllI P R [] := fun k hk => by
  have : k = 0 := Nat.le_zero.1 hk
  subst this; exact h
/-- A relation that each instruction keeps. -/
theorem AllI.keep {P : Dv → Prop} {R : Dv} {l : List In} (h : P R) (hs : ∀ R x, x ∈ l → P R → P (devI R x)) : AllI P R l := by
  intro k hk
  induction k with
  | zero => exact h
  | succ k ih =>
    have hk' : k < l.length := hk
    rw [List.take_add_one, List.getElem?_eq_getElem hk', Option.toList_some, List.foldl_append]
    exact hs _ _ (List.getElem_mem hk') (ih (by omega))
theorem AllI.last {P : Dv → Prop} {R : Dv} {l : List In} (h : AllI P R l) : P (l.foldl devI R) := by
  have := h l.length (Nat.le_refl _)
  rwa [List.take_length] at this
/-- The stores of the entries F behind n entries. -/
def entW (n : Nat) : List (Nat × Nat) → List (Nat × Nat)
  | [] => []
  | e :: F => (64 + 16 * n, e.1) :: (72 + 16 * n, e.2) :: entW (n + 1) F
variable {R : Dv} {old new : Nat → Nat} {E : List (Nat × Nat)} {n T : Nat} {C : List Nat}
structure UndP (R0 : Dv) (old : Nat → Nat) (E : List (Nat × Nat)) (n : Nat) (C : List Nat) (R : Dv) : Prop where
  u : Und R old E n C
  v : ∀ o, o % 8 = 0 → 192 ≤ o → o < 640 → valueP R o = valueP R0 o
theorem UndP.refl (h : Und R old E n C) : UndP R old E n C R := ⟨h, fun _ _ _ _ => rfl⟩
theorem UndP.entry {R0 : Dv} (h : UndP R0 old E n C R) {off v i : Nat} (ho : off = 64 + 16 * i ∨ off = 72 + 16 * i) (hi : E.length ≤ i) (h8 : i < 8) : UndP R0 old E n C (storeP R 0 off v) := by
  have hl := h.u.len
  exact ⟨h.u.entry ho hi h8, fun o b1 b2 b3 => (store_val_ne h.u.lv (by omega) (by omega) b1 (by omega)).trans (h.v o b1 b2 b3)⟩
theorem entW_mem {n : Nat} : ∀ {F : List (Nat × Nat)} {m : Nat} {p : Nat × Nat}, p ∈ entW m F → ∃ i, m ≤ i ∧ i < m + F.length ∧ (p.1 = 64 + 16 * i ∨ p.1 = 72 + 16 * i)
  | [], m, p, h => by cases h
  | e :: F, m, p, h => by
    simp only [entW, List.mem_cons] at h
    rcases h with rfl | rfl | h
    · exact ⟨m, Nat.le_refl _, by simp, .inl rfl⟩
    · exact ⟨m, Nat.le_refl _, by simp, .inr rfl⟩
    · obtain ⟨i, h1, h2, h3⟩ := entW_mem (n := n) h
      exact ⟨i, by omega, by simp only [List.length_cons]; omega, h3⟩
theorem entW_has : ∀ (F : List (Nat × Nat)) (m i : Nat) (e : Nat × Nat), F[i]? = some e → (64 + 16 * (m + i), e.1) ∈ entW m F ∧ (72 + 16 * (m + i), e.2) ∈ entW m F
  | [], m, i, e, h => by cases h
  | x :: F, m, 0, e, h => by
    simp only [List.getElem?_cons_zero, Option.some.injEq] at h
    subst h
    simp [entW]
  | x :: F, m, i + 1, e, h => by
    have := entW_has F (m + 1) i e (by simpa using h)
    rw [show m + 1 + i = m + (i + 1) by omega] at this
    simp only [entW, List.mem_cons]
    exact ⟨.inr (.inr this.1), .inr (.inr this.2)⟩
/-- What the stores of entries leave: the words of the entries, and the notes. -/
theorem entW_run (h8 : E.length ≤ 8) : ∀ (F : List (Nat × Nat)) (m : Nat) (R : Dv), Und R old E n C → E.length ≤ m → m + F.length ≤ 8 →
    (∀ i e, F[i]? = some e → valueP (((entW m F).map stI).foldl devI R) (64 + 16 * (m + i)) = e.1 ∧ valueP (((entW m F).map stI).foldl devI R) (72 + 16 * (m + i)) = e.2) ∧
    (∀ o, o % 8 = 0 → (o < 64 + 16 * m ∨ 64 + 16 * (m + F.length) ≤ o) → valueP (((entW m F).map stI).foldl devI R) o = valueP R o) ∧ (((entW m F).map stI).foldl devI R).notes = R.notes
  | [], m, R, hu, hm, hl => ⟨fun i e he => (by cases he), fun _ _ _ => rfl, rfl⟩
  | e :: F, m, R, hu, hm, hl => by
    have hlen := hu.len
    simp only [List.length_cons] at hl
    have u1 : Und (storeP R 0 (64 + 16 * m) e.1) old E n C := hu.entry (.inl rfl) hm (by omega)
    have u2 : Und (storeP (storeP R 0 (64 + 16 * m) e.1) 0 (72 + 16 * m) e.2) old E n C := u1.entry (.inr rfl) hm (by omega)
    have hlen1 := u1.len
    obtain ⟨i1, i2, i3⟩ := entW_run h8 F (m + 1) _ u2 (by omega) (by omega)
    have hfold : ((entW m (e :: F)).map stI).foldl devI R = ((entW (m + 1) F).map stI).foldl devI (storeP (storeP R 0 (64 + 16 * m) e.1) 0 (72 + 16 * m) e.2) := rfl
    have n1 := (store_rest hu.lv (v := e.1) (off := 64 + 16 * m) (by omega) (by omega)).2.1
    have n2 := (store_rest u1.lv (v := e.2) (off := 72 + 16 * m) (by omega) (by omega)).2.1
    rw [hfold]
    refine ⟨fun i x hx => ?_, fun o h1 h2 => ?_, i3.trans (n2.trans n1)⟩
    · cases i with
      | zero =>
        simp only [List.getElem?_cons_zero, Option.some.injEq] at hx
        subst hx
        refine ⟨?_, ?_⟩
        · rw [i2 _ (by omega) (.inl (by omega)), store_val_ne u1.lv (by omega) (by omega) (by omega) (by omega)]
          exact store_val_eq hu.lv (by omega) (by omega)
        · rw [i2 _ (by omega) (.inl (by omega))]
          exact store_val_eq u1.lv (by omega) (by omega)
      | succ i =>
        have := i1 i x (by simpa using hx)
        rwa [show m + 1 + i = m + (i + 1) by omega] at this
    · simp only [List.length_cons] at h2
      rw [i2 o h1 (by omega), store_val_ne u1.lv (by omega) (by omega) h1 (by omega), store_val_ne hu.lv (by omega) (by omega) h1 (by omega)]
/-- Flushes of lines of the device. -/
theorem flush_run : ∀ (fl : List Nat) (R : Dv) (gl : List Nat), Und R old E n C → (∀ o ∈ fl, o < 640) → Flushed R gl →
    AllI (fun R' => Und R' old E n C) R (fl.map flI) ∧ Flushed ((fl.map flI).foldl devI R) (gl ++ fl.map (· / 64)) ∧ (∀ o, valueP ((fl.map flI).foldl devI R) o = valueP R o)
  | [], R, gl, hu, ho, hf => ⟨.nil hu, by simpa using hf, fun _ => rfl⟩
  | o :: fl, R, gl, hu, ho, hf => by
    have h0 := ho o (List.mem_cons_self ..)
    have hlen := hu.len
    have u1 := hu.flush h0
    have f1 := hf.flush hu.lv (off := o) (by omega)
    obtain ⟨i1, i2, i3⟩ := flush_run fl (flushP R 0 o) (gl ++ [o / 64]) u1 (fun x hx => ho x (List.mem_cons_of_mem _ hx)) f1
    refine ⟨?_, ?_, fun x => (i3 x).trans (flush_val hu.lv (by omega) x)⟩
    · intro k hk
      cases k with
      | zero => exact hu
      | succ k => exact i1 k (by simpa using hk)
    · have : gl ++ (o :: fl).map (· / 64) = gl ++ [o / 64] ++ fl.map (· / 64) := by simp
      rw [this]; exact i2
/-- What a save leaves: the entries persist, they are counted, and the words are as before. -/
structure Saved (R0 : Dv) (old : Nat → Nat) (E : List (Nat × Nat)) (R : Dv) : Prop where
  u : Und R old E E.length [E.length]
  z : notes0 R = []
  v : ∀ o, o % 8 = 0 → 192 ≤ o → o < 640 → valueP R o = valueP R0 o
def UndA (old : Nat → Nat) (R : Dv) : Prop := ∃ E n C, Und R old E n C
/-- The program of a save. -/
theorem save_run {F : List (Nat × Nat)} {fl : List Nat} (h : Und R old E E.length [E.length]) (hz : notes0 R = []) (h8 : E.length + F.length ≤ 8) (hF : ∀ e ∈ F, okOff e.1 = true ∧ e.2 = old e.1)
    (hfl : ∀ o ∈ fl, o < 640) (hcov : ∀ p ∈ entW E.length F, p.1 / 64 ∈ fl.map (· / 64)) :
    AllI (UndA old) R (storesI (entW E.length F) fl ++ storesI [(0, E.length + F.length)] [0]) ∧ Saved R old (E ++ F) ((storesI (entW E.length F) fl ++ storesI [(0, E.length + F.length)] [0]).foldl devI R) := by
  have e8 := h.e8
  have hlen := h.len
  -- the entries
  have a1 : AllI (fun R' => UndP R old E E.length [E.length] R') R ((entW E.length F).map stI) := AllI.keep (UndP.refl h) (fun R' x hx hu => by
    obtain ⟨p, hp, rfl⟩ := List.mem_map.1 hx
    obtain ⟨i, h1, h2, h3⟩ := entW_mem (n := 0) hp
    exact hu.entry h3 h1 (by omega))
  obtain ⟨r1, r2, r3⟩ := entW_run e8 F E.length R h (Nat.le_refl _) h8
  obtain ⟨R1, hR1⟩ : ∃ R1, ((entW E.length F).map stI).foldl devI R = R1 := ⟨_, rfl⟩
  have u1 := a1.last
  rw [hR1] at u1 r1 r2 r3
  have z1 : notes0 R1 = [] := by unfold notes0 at hz ⊢; rw [r3]; exact hz
  obtain ⟨f1, f2, f3⟩ := flush_run fl R1 [] u1.u hfl (Flushed.nil z1)
  obtain ⟨R2, hR2⟩ : ∃ R2, (fl.map flI).foldl devI R1 = R2 := ⟨_, rfl⟩
  have u2 := f1.last
  rw [hR2] at u2 f2 f3
  rw [List.nil_append] at f2
  have hl2 := u2.len
  have u3 : Und (fenceP R2 0) old E E.length [E.length] := u2.fence
  have z3 := (fence_rest u2.lv).2.2
  have v3 : ∀ o, valueP (fenceP R2 0) o = valueP R1 o := fun o => (f2.val u2.lv o).trans (f3 o)
  have hent : ∀ i e, F[i]? = some e → InV (fenceP R2 0) (64 + 16 * (E.length + i)) [e.1] ∧ InV (fenceP R2 0) (72 + 16 * (E.length + i)) [e.2] := fun i e he => by
    obtain ⟨g1, g2⟩ := r1 i e he
    have hi : i < F.length := by
      rcases Nat.lt_or_ge i F.length with g | g
      · exact g
      · rw [List.getElem?_eq_none g] at he; cases he
    have m1 : (64 + 16 * (E.length + i), e.1) ∈ entW E.length F ∧ (72 + 16 * (E.length + i), e.2) ∈ entW E.length F := entW_has _ _ _ _ he
    have w1 := f2.inV u2.lv (off := 64 + 16 * (E.length + i)) (hcov _ m1.1) (by omega)
    have w2 := f2.inV u2.lv (off := 72 + 16 * (E.length + i)) (hcov _ m1.2) (by omega)
    rw [f3, g1] at w1
    rw [f3, g2] at w2
    exact ⟨w1, w2⟩
  have u4 : Und (fenceP R2 0) old (E ++ F) E.length [E.length] := u3.more h8 (Nat.le_refl _) hent hF
  have hl4 := u4.len
  -- the count
  have u5 : Und (storeP (fenceP R2 0) 0 0 (E.length + F.length)) old (E ++ F) E.length [E.length, E.length + F.length] := u4.count ⟨Nat.le_add_right _ _, by rw [List.length_append]; exact Nat.le_refl _⟩
  obtain ⟨_, n5, _⟩ := store_rest u4.lv (off := 0) (v := E.length + F.length) rfl (by omega)
  have z5 : notes0 (storeP (fenceP R2 0) 0 0 (E.length + F.length)) = [] := by unfold notes0 at z3 ⊢; rw [n5]; exact z3
  have v5 : ∀ o, o % 8 = 0 → 192 ≤ o → o < 640 → valueP (storeP (fenceP R2 0) 0 0 (E.length + F.length)) o = valueP R o := fun o b1 b2 b3 => by
    rw [store_val_ne u4.lv rfl (by omega) b1 (by omega), v3, r2 o b1 (.inr (by omega))]
  have c5 : valueP (storeP (fenceP R2 0) 0 0 (E.length + F.length)) 0 = E.length + F.length := store_val_eq u4.lv rfl (by omega)
  obtain ⟨R5, hR5⟩ : ∃ R5, storeP (fenceP R2 0) 0 0 (E.length + F.length) = R5 := ⟨_, rfl⟩
  rw [hR5] at u5 z5 v5 c5
  have hl5 := u5.len
  have u6 := u5.flush (off := 0) (by omega)
  have f6 := (Flushed.nil z5).flush u5.lv (off := 0) (by omega)
  have u7 := u6.fence
  have hl6 := u6.len
  have c7 := f6.inV u6.lv (off := 0) (by simp) (by omega)
  rw [flush_val u5.lv (by omega), c5] at c7
  have u8 : Und (fenceP (flushP R5 0 0) 0) old (E ++ F) (E.length + F.length) [E.length + F.length] := u7.up ⟨Nat.le_add_right _ _, by rw [List.length_append]; exact Nat.le_refl _⟩ c7
  have hfin : (storesI (entW E.length F) fl ++ storesI [(0, E.length + F.length)] [0]).foldl devI R = fenceP (flushP R5 0 0) 0 := by
    unfold storesI
    simp only [List.foldl_append, hR1, hR2, List.map_cons, List.map_nil, List.foldl_cons, List.foldl_nil, devI_fe, devI_st, devI_fl, hR5]
  refine ⟨?_, ?_⟩
  · refine AllI.app (AllI.app (AllI.app (a1.mono fun R' hu => ⟨_, _, _, hu.u⟩) ?_) ?_) ?_
    · rw [hR1]; exact f1.mono fun R' hu => ⟨_, _, _, hu⟩
    · rw [List.foldl_append, hR1, hR2]
      intro k hk
      match k, hk with
      | 0, _ => exact ⟨_, _, _, u2⟩
      | 1, _ => exact ⟨_, _, _, u3⟩
    · have e1 : ((entW E.length F).map stI ++ fl.map flI ++ [feI]).foldl devI R = fenceP R2 0 := by
        simp only [List.foldl_append, hR1, hR2, List.foldl_cons, List.foldl_nil, devI_fe]
      show AllI (UndA old) (((entW E.length F).map stI ++ fl.map flI ++ [feI]).foldl devI R) _
      rw [e1]
      intro k hk
      match k, hk with
      | 0, _ => exact ⟨_, _, _, u4⟩
      | 1, _ => exact ⟨_, _, _, by show Und (storeP (fenceP R2 0) 0 0 (E.length + F.length)) _ _ _ _; rw [hR5]; exact u5⟩
      | 2, _ => exact ⟨_, _, _, by show Und (flushP (storeP (fenceP R2 0) 0 0 (E.length + F.length)) 0 0) _ _ _ _; rw [hR5]; exact u6⟩
      | 3, _ => exact ⟨_, _, _, by show Und (fenceP (flushP (storeP (fenceP R2 0) 0 0 (E.length + F.length)) 0 0) 0) _ _ _ _; rw [hR5]; exact u8⟩
  · rw [hfin]
    refine ⟨by rw [List.length_append]; exact u8, (fence_rest u6.lv).2.2, fun o b1 b2 b3 => ?_⟩
    rw [f6.val u6.lv, flush_val u5.lv (by omega), v5 o b1 b2 b3]
/-- The words after some stores. -/
def updF (f : Nat → Nat) (ws : List (Nat × Nat)) : Nat → Nat := ws.foldl (fun f p o => if o = p.1 then p.2 else f o) f
/-- Stores to words that are saved. -/
theorem data_run : ∀ (ws : List (Nat × Nat)) (R : Dv) (f : Nat → Nat), Und R old E E.length [E.length] → notes0 R = [] → (∀ p ∈ ws, okOff p.1 = true ∧ p.1 ∈ E.map Prod.fst) → (∀ o, o % 8 = 0 → 192 ≤ o → o < 640 → valueP R o = f o) →
    AllI (UndA old) R (ws.map stI) ∧ Und ((ws.map stI).foldl devI R) old E E.length [E.length] ∧ notes0 ((ws.map stI).foldl devI R) = [] ∧ ∀ o, o % 8 = 0 → 192 ≤ o → o < 640 → valueP ((ws.map stI).foldl devI R) o = updF f ws o
  | [], R, f, h, hz, _, hf => ⟨.nil ⟨_, _, _, h⟩, h, hz, hf⟩
  | p :: ws, R, f, h, hz, hw, hf => by
    obtain ⟨g1, g2⟩ := hw p (List.mem_cons_self ..)
    obtain ⟨b1, b2, b3⟩ := okOff_iff.1 g1
    have hlen := h.len
    have u1 : Und (storeP R 0 p.1 p.2) old E E.length [E.length] := h.data g1 (by rw [List.take_length]; exact g2)
    have z1 : notes0 (storeP R 0 p.1 p.2) = [] := by
      unfold notes0 at hz ⊢
      rw [(store_rest h.lv (v := p.2) (off := p.1) b1 (by omega)).2.1]; exact hz
    obtain ⟨i1, i2, i3, i4⟩ := data_run ws (storeP R 0 p.1 p.2) (fun o => if o = p.1 then p.2 else f o) u1 z1 (fun x hx => hw x (List.mem_cons_of_mem _ hx)) (fun o c1 c2 c3 => by
      by_cases e : o = p.1
      · rw [if_pos e, e]; exact store_val_eq h.lv b1 (by omega)
      · rw [if_neg e, store_val_ne h.lv b1 (by omega) c1 e]; exact hf o c1 c2 c3)
    refine ⟨?_, i2, i3, i4⟩
    intro k hk
    cases k with
    | zero => exact ⟨_, _, _, h⟩
    | succ k => exact i1 k (by simpa using hk)
def ComA (old new : Nat → Nat) (R : Dv) : Prop := UndA old R ∨ ∃ E n C, Com R old new E n C
theorem ComA.recd (h : ComA old new R) (hok : R.Ok T) : Rec R old new true true := by
  rcases h with ⟨_, _, _, h⟩ | ⟨_, _, _, h⟩
  · exact h.recd hok new true
  · exact h.recd hok
theorem UndA.recd (h : UndA old R) (hok : R.Ok T) (new : Nat → Nat) : Rec R old new true false := by
  obtain ⟨_, _, _, h⟩ := h
  exact h.recd hok new false
/-- The program of a commit. -/
theorem commit_run {fl : List Nat} (h : Und R old E E.length [E.length]) (hz : notes0 R = []) (hfl : ∀ o ∈ fl, o < 640) (hcov : ∀ e ∈ E, e.1 / 64 ∈ fl.map (· / 64)) (hnew : ∀ o, o % 8 = 0 → 192 ≤ o → o < 640 → valueP R o = new o) :
    AllI (ComA old new) R (fl.map flI ++ [feI] ++ storesI [(0, 0)] [0]) ∧ Und ((fl.map flI ++ [feI] ++ storesI [(0, 0)] [0]).foldl devI R) new [] 0 [0] ∧ notes0 ((fl.map flI ++ [feI] ++ storesI [(0, 0)] [0]).foldl devI R) = [] ∧
      ∀ o, o % 8 = 0 → 192 ≤ o → o < 640 → valueP ((fl.map flI ++ [feI] ++ storesI [(0, 0)] [0]).foldl devI R) o = new o := by
  have hlen := h.len
  obtain ⟨f1, f2, f3⟩ := flush_run fl R [] h hfl (Flushed.nil hz)
  obtain ⟨R2, hR2⟩ : ∃ R2, (fl.map flI).foldl devI R = R2 := ⟨_, rfl⟩
  have u2 := f1.last
  rw [hR2] at u2 f2 f3
  rw [List.nil_append] at f2
  have hl2 := u2.len
  have u3 : Und (fenceP R2 0) old E E.length [E.length] := u2.fence
  have z3 := (fence_rest u2.lv).2.2
  have v3 : ∀ o, valueP (fenceP R2 0) o = valueP R o := fun o => (f2.val u2.lv o).trans (f3 o)
  have hnw : ∀ o, o % 8 = 0 → 192 ≤ o → o < 640 → InV (fenceP R2 0) o [new o] := fun o b1 b2 b3 => by
    by_cases hm : o ∈ E.map Prod.fst
    · obtain ⟨e, he, rfl⟩ := List.mem_map.1 hm
      have := f2.inV u2.lv (off := e.1) (hcov e he) (by omega)
      rwa [f3, hnew _ b1 b2 b3] at this
    · have hd := u3.dat o b1 b2 b3 (by rw [List.take_length]; exact hm)
      have := List.mem_singleton.1 hd.cur
      rw [v3, hnew o b1 b2 b3] at this
      rw [this]; exact hd
  have c3 := u3.com hnw
  have hl3 := c3.len
  have c4 := c3.zero
  obtain ⟨_, n4, _⟩ := store_rest c3.lv (off := 0) (v := 0) rfl (by omega)
  have z4 : notes0 (storeP (fenceP R2 0) 0 0 0) = [] := by unfold notes0 at z3 ⊢; rw [n4]; exact z3
  have v4 : ∀ o, o % 8 = 0 → 192 ≤ o → o < 640 → valueP (storeP (fenceP R2 0) 0 0 0) o = new o := fun o b1 b2 b3 => by
    rw [store_val_ne c3.lv rfl (by omega) b1 (by omega), v3, hnew o b1 b2 b3]
  have x4 : valueP (storeP (fenceP R2 0) 0 0 0) 0 = 0 := store_val_eq c3.lv rfl (by omega)
  obtain ⟨R4, hR4⟩ : ∃ R4, storeP (fenceP R2 0) 0 0 0 = R4 := ⟨_, rfl⟩
  rw [hR4] at c4 z4 v4 x4
  have hl4 := c4.len
  have c5 := c4.flush (off := 0) (by omega)
  have f5 := (Flushed.nil z4).flush c4.lv (off := 0) (by omega)
  have hl5 := c5.len
  have i6 := f5.inV c5.lv (off := 0) (by simp) (by omega)
  rw [flush_val c4.lv (by omega), x4] at i6
  obtain ⟨r6, lv6, z6⟩ := fence_rest c5.lv
  have u6 : Und (fenceP (flushP R4 0 0) 0) new [] 0 [0] := ⟨lv6, r6.trans hl5, i6, fun c hc => (by rw [List.mem_singleton.1 hc]; exact ⟨Nat.le_refl _, Nat.zero_le _⟩), Nat.zero_le _, fun i e he => (by cases he), fun e he => (by cases he), fun o b1 b2 b3 _ => (c5.nw o b1 b2 b3).fence c5.lv⟩
  have hfin : (fl.map flI ++ [feI] ++ storesI [(0, 0)] [0]).foldl devI R = fenceP (flushP R4 0 0) 0 := by
    unfold storesI
    simp only [List.foldl_append, hR2, List.map_cons, List.map_nil, List.foldl_cons, List.foldl_nil, devI_fe, devI_st, devI_fl, hR4]
  refine ⟨?_, by rw [hfin]; exact u6, by rw [hfin]; exact z6, fun o b1 b2 b3 => ?_⟩
  · refine AllI.app (AllI.app (f1.mono fun R' hu => .inl ⟨_, _, _, hu⟩) ?_) ?_
    · rw [hR2]
      intro k hk
      match k, hk with
      | 0, _ => exact .inl ⟨_, _, _, u2⟩
      | 1, _ => exact .inl ⟨_, _, _, u3⟩
    · have e1 : (fl.map flI ++ [feI]).foldl devI R = fenceP R2 0 := by
        simp only [List.foldl_append, hR2, List.foldl_cons, List.foldl_nil, devI_fe]
      rw [e1]
      intro k hk
      match k, hk with
      | 0, _ => exact .inr ⟨_, _, _, c3⟩
      | 1, _ => exact .inr ⟨_, _, _, by show Com (storeP (fenceP R2 0) 0 0 0) _ _ _ _ _; rw [hR4]; exact c4⟩
      | 2, _ => exact .inr ⟨_, _, _, by show Com (flushP (storeP (fenceP R2 0) 0 0 0) 0 0) _ _ _ _ _; rw [hR4]; exact c5⟩
      | 3, _ => exact .inr ⟨_, _, _, by show Com (fenceP (flushP (storeP (fenceP R2 0) 0 0 0) 0 0) 0) old new E E.length _; rw [hR4]; exact c5.fence⟩
  · rw [hfin, f5.val c5.lv, flush_val c4.lv (by omega), v4 o b1 b2 b3]
end Go.Proofs.Ytjmdibgncaljaaa
