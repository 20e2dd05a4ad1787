/- Plain: what recovery makes of a fresh device. -/
import Derived.Test.YtjmdibgncaljaaaUP
namespace Go.Proofs.Ytjmdibgncaljaaa
open Go.RowKit Dev
theorem store_errs {R : Dv} (h : Live R) {off v : Nat} (h8 : off % 8 = 0) (hl : off < 64 * R.lines.length) : (storeP R 0 off v).errs = R.errs := by rw [store_live h h8 hl]; rfl
theorem flush_errs {R : Dv} (h : Live R) {off : Nat} (hl : off < 64 * R.lines.length) : (flushP R 0 off).errs = R.errs := by rw [flush_live h hl]; rfl
theorem fence_errs {R : Dv} (h : Live R) : (fenceP R 0).errs = R.errs := by rw [fence_live h]; rfl
/-- A program whose instructions go to the ten lines. -/
structure FitT (x : In) : Prop where
  f : FitU x
  o : x.off < 640
/-- Live, of ten lines, without an error. -/
structure Ok10 (R : Dv) : Prop where
  lv : Live R
  len : R.lines.length = 10
  er : R.errs.getD 0 0 = 0
theorem Ok10.step {R : Dv} (h : Ok10 R) {x : In} (hx : FitT x) : Ok10 (devI R x) := by
  have hl := h.len
  have ho := hx.o
  unfold devI
  split
  · obtain ⟨r1, _, r3⟩ := store_rest h.lv (v := x.v) hx.f.al (by omega)
    exact ⟨r3, r1.trans hl, by rw [store_errs h.lv hx.f.al (by omega)]; exact h.er⟩
  · split
    · obtain ⟨r1, r2, _⟩ := flush_rest h.lv (off := x.off) (by omega)
      exact ⟨r2, by rw [r1]; exact hl, by rw [flush_errs h.lv (by omega)]; exact h.er⟩
    · obtain ⟨r1, r2, _⟩ := fence_rest h.lv
      exact ⟨r2, r1.trans hl, by rw [fence_errs h.lv]; exact h.er⟩
theorem Ok10.run : ∀ {l : List In} {R : Dv}, Ok10 R → (∀ x ∈ l, FitT x) → Ok10 (l.foldl devI R)
  | [], _, h, _ => h
  | x :: l, _, h, hf => by
    rw [List.foldl_cons]
    exact Ok10.run (h.step (hf x (List.mem_cons_self ..))) fun y hy => hf y (List.mem_cons_of_mem _ hy)
/-- Nothing is volatile. -/
structure Clean (R : Dv) : Prop where
  k : Ok10 R
  n : notes0 R = []
  h : ∀ i, i < 10 → (R.line i).hist = []
theorem st_run : ∀ (ws : List (Nat × Nat)) (R : Dv), Ok10 R → (∀ p ∈ ws, p.1 % 8 = 0 ∧ p.1 < 640) → Ok10 ((ws.map stI).foldl devI R) ∧ notes0 ((ws.map stI).foldl devI R) = notes0 R ∧
    (∀ o, o % 8 = 0 → valueP ((ws.map stI).foldl devI R) o = updF (valueP R) ws o) ∧ (∀ i, (R.line i).hist = [] → i ∉ ws.map (fun p => p.1 / 64) → (((ws.map stI).foldl devI R).line i).hist = [])
  | [], R, h, _ => ⟨h, rfl, fun _ _ => rfl, fun _ h1 _ => h1⟩
  | p :: ws, R, h, hw => by
    obtain ⟨g1, g2⟩ := hw p (List.mem_cons_self ..)
    have hl := h.len
    obtain ⟨r1, r2, r3⟩ := store_rest h.lv (off := p.1) (v := p.2) g1 (by omega)
    have h1 : Ok10 (storeP R 0 p.1 p.2) := ⟨r3, r1.trans hl, by rw [store_errs h.lv g1 (by omega)]; exact h.er⟩
    obtain ⟨i1, i2, i3, i4⟩ := st_run ws (storeP R 0 p.1 p.2) h1 (fun x hx => hw x (List.mem_cons_of_mem _ hx))
    have e : ((p :: ws).map stI).foldl devI R = (ws.map stI).foldl devI (storeP R 0 p.1 p.2) := rfl
    rw [e]
    refine ⟨i1, i2.trans (by unfold notes0; rw [r2]), fun o ho => ?_, fun i hi hn => ?_⟩
    · rw [i3 o ho]
      unfold updF
      rw [List.foldl_cons]
      have : ∀ (ws : List (Nat × Nat)) (f g : Nat → Nat), (f o = g o) → ws.foldl (fun f p o => if o = p.1 then p.2 else f o) f o = ws.foldl (fun f p o => if o = p.1 then p.2 else f o) g o := by
        intro ws
        induction ws with
        | nil => exact fun _ _ h => h
        | cons q ws ih => exact fun f g h => ih _ _ (by simp only []; rw [h])
      refine this ws _ _ ?_
      by_cases e : o = p.1
      · simp only [e, if_true]; exact store_val_eq h.lv g1 (by omega)
      · simp only [e, if_false]; exact store_val_ne h.lv g1 (by omega) ho e
    · simp only [List.map_cons, List.mem_cons, not_or] at hn
      refine i4 i ?_ hn.2
      rw [store_line h.lv g1 (by omega), if_neg hn.1]; exact hi
theorem fl_run : ∀ (fl : List Nat) (R : Dv) (gl : List Nat), Ok10 R → (∀ o ∈ fl, o < 640) → Flushed R gl → Ok10 ((fl.map flI).foldl devI R) ∧ Flushed ((fl.map flI).foldl devI R) (gl ++ fl.map (· / 64)) ∧
    (∀ o, valueP ((fl.map flI).foldl devI R) o = valueP R o) ∧ ((fl.map flI).foldl devI R).lines = R.lines
  | [], R, gl, h, _, hf => ⟨h, by simpa using hf, fun _ => rfl, rfl⟩
  | o :: fl, R, gl, h, ho, hf => by
    have h0 := ho o (List.mem_cons_self ..)
    have hl := h.len
    obtain ⟨r1, r2, _⟩ := flush_rest h.lv (off := o) (by omega)
    have h1 : Ok10 (flushP R 0 o) := ⟨r2, by rw [r1]; exact hl, by rw [flush_errs h.lv (by omega)]; exact h.er⟩
    have f1 := hf.flush h.lv (off := o) (by omega)
    obtain ⟨i1, i2, i3, i4⟩ := fl_run fl (flushP R 0 o) (gl ++ [o / 64]) h1 (fun x hx => ho x (List.mem_cons_of_mem _ hx)) f1
    have e : ((o :: fl).map flI).foldl devI R = (fl.map flI).foldl devI (flushP R 0 o) := rfl
    rw [e]
    refine ⟨i1, ?_, fun x => (i3 x).trans (flush_val h.lv (by omega) x), i4.trans r1⟩
    have : gl ++ (o :: fl).map (· / 64) = gl ++ [o / 64] ++ fl.map (· / 64) := by simp
    rw [this]; exact i2
/-- Stores, flushed and fenced, on a device on which nothing is volatile. -/
theorem clean_run {R : Dv} (h : Clean R) {ws : List (Nat × Nat)} {fl : List Nat} (hw : ∀ p ∈ ws, p.1 % 8 = 0 ∧ p.1 < 640) (hfl : ∀ y, y ∈ fl ↔ y ∈ ws.map fun p => p.1 / 64 * 64) :
    Clean ((storesI ws fl).foldl devI R) ∧ ∀ o, o % 8 = 0 → valueP ((storesI ws fl).foldl devI R) o = updF (valueP R) ws o := by
  obtain ⟨a1, a2, a3, a4⟩ := st_run ws R h.k hw
  obtain ⟨R1, hR1⟩ : ∃ R1, (ws.map stI).foldl devI R = R1 := ⟨_, rfl⟩
  rw [hR1] at a1 a2 a3 a4
  have hflb : ∀ o ∈ fl, o < 640 := fun o ho => by
    obtain ⟨p, hp, rfl⟩ := List.mem_map.1 ((hfl o).1 ho)
    have := (hw p hp).2; omega
  obtain ⟨b1, b2, b3, b4⟩ := fl_run fl R1 [] a1 hflb (Flushed.nil (a2.trans h.n))
  obtain ⟨R2, hR2⟩ : ∃ R2, (fl.map flI).foldl devI R1 = R2 := ⟨_, rfl⟩
  rw [hR2] at b1 b2 b3 b4
  rw [List.nil_append] at b2
  have e : (storesI ws fl).foldl devI R = fenceP R2 0 := by
    unfold storesI
    simp only [List.foldl_append, hR1, hR2, List.foldl_cons, List.foldl_nil, devI_fe]
  obtain ⟨r1, r2, r3⟩ := fence_rest b1.lv
  rw [e]
  refine ⟨⟨⟨r2, r1.trans b1.len, by rw [fence_errs b1.lv]; exact b1.er⟩, r3, fun i hi => ?_⟩, fun o ho => by rw [b2.val b1.lv, b3, a3 o ho]⟩
  by_cases hm : i ∈ fl.map (· / 64)
  · exact b2.fence b1.lv hm (by rw [b1.len]; exact hi)
  · rw [fence_line b1.lv]
    refine fold_done _ i _ ?_
    rw [b4]
    refine a4 i (h.h i hi) (fun hx => hm ?_)
    obtain ⟨p, hp, rfl⟩ := List.mem_map.1 hx
    exact List.mem_map.2 ⟨p.1 / 64 * 64, (hfl _).2 (List.mem_map.2 ⟨p, hp, rfl⟩), by show p.1 / 64 * 64 / 64 = p.1 / 64; omega⟩
/-- What Recover makes of a device. -/
def recD (R : Dv) (fl : List Nat) : Dv := if savedV R = [] then R else (storesI (savedV R) fl ++ storesI [(0, 0)] [0]).foldl devI R
theorem updF_set (o : Nat) (ho : o % 8 = 0) (hd : 192 ≤ o ∧ o < 640) : ∀ (ws : List (Nat × Nat)) (x : List Nat) (f : Nat → Nat), x.length = 80 → (∀ p ∈ ws, p.1 % 8 = 0 ∧ p.1 < 640) → f o = x.getD (o / 8) 0 → updF f ws o = (ws.foldl setA x).getD (o / 8) 0
  | [], x, f, _, _, hf => hf
  | p :: ws, x, f, hx, hw, hf => by
    obtain ⟨g1, g2⟩ := hw p (List.mem_cons_self ..)
    rw [List.foldl_cons]
    unfold updF
    rw [List.foldl_cons]
    refine updF_set o ho hd ws (setA x p) _ (by unfold setA; rw [List.length_set]; exact hx) (fun y hy => hw y (List.mem_cons_of_mem _ hy)) ?_
    unfold setA
    rw [getD_set _ _ _ _ _ (by omega)]
    by_cases e : o = p.1
    · simp only [e, if_true]
    · rw [if_neg e, if_neg (by omega)]; exact hf
theorem fromP_val {x : List Nat} (hx : x.length = 80) {o : Nat} (ho : o < 640) : valueP (fromP 10 x) o = x.getD (o / 8) 0 := by
  unfold valueP
  rw [fromP_line _ _ _ (by omega)]
  unfold lnOf allL wordsL
  simp only [List.length_nil, List.take_nil, List.foldl_nil]
  simp only [List.getD_eq_getElem?_getD, List.getElem?_take, List.getElem?_drop]
  rw [if_pos (by omega)]
  congr 2
  omega
theorem fromP_clean {x : List Nat} (hx : x.length = 80) : Clean (fromP 10 x) := by
  have hl : (fromP 10 x).lines.length = 10 := fromP_len _ _
  refine ⟨⟨⟨rfl, rfl, by show 0 < (List.replicate 8 ([] : List (Nat × Nat))).length; simp, fun i hi => ?_⟩, hl, rfl⟩, rfl, fun i hi => ?_⟩
  · rw [hl] at hi
    rw [fromP_line _ _ _ hi]
    unfold lnOf
    simp only [List.length_take, List.length_drop]
    omega
  · rw [fromP_line _ _ _ hi]; rfl
theorem fromP_saved {x : List Nat} (hx : x.length = 80) : savedV (fromP 10 x) = savedX x := by
  have h0 : valueP (fromP 10 x) 0 = x.getD 0 0 := fromP_val hx (by omega)
  have hc : cntV2 (fromP 10 x) = cntX x := by unfold cntV2 cntX; rw [h0]
  have h8 := cntV2_le (fromP 10 x)
  unfold savedV savedX
  rw [hc]
  rw [hc] at h8
  apply List.map_congr_left
  intro i hi
  rw [List.mem_range] at hi
  rw [fromP_val hx (by omega), fromP_val hx (by omega), show (64 + 16 * i) / 8 = 8 + 2 * i by omega, show (72 + 16 * i) / 8 = 9 + 2 * i by omega]
/-- Recovery of a crash image: the log is empty, nothing is volatile, and the words are what recX says. -/
theorem rec_image {x : List Nat} (hx : x.length = 80) (hok : ∀ p ∈ savedX x, okOff p.1 = true) {fl : List Nat} (hfl : ∀ y, y ∈ fl ↔ y ∈ (savedX x).map fun p => p.1 / 64 * 64) :
    Clean (recD (fromP 10 x) fl) ∧ savedV (recD (fromP 10 x) fl) = [] ∧ ∀ o, o % 8 = 0 → 192 ≤ o → o < 640 → valueP (recD (fromP 10 x) fl) o = (recX x).getD (o / 8) 0 := by
  have hc := fromP_clean hx
  have hs := fromP_saved hx
  unfold recD recX
  rw [hs]
  by_cases h0 : savedX x = []
  · rw [if_pos h0, if_pos h0]
    exact ⟨hc, by rw [hs]; exact h0, fun o _ _ h3 => fromP_val hx h3⟩
  · rw [if_neg h0, if_neg h0]
    have hw : ∀ p ∈ savedX x, p.1 % 8 = 0 ∧ p.1 < 640 := fun p hp => by have := okOff_iff.1 (hok p hp); exact ⟨this.1, this.2.2⟩
    obtain ⟨c1, v1⟩ := clean_run hc hw hfl
    rw [List.foldl_append]
    obtain ⟨c2, v2⟩ := clean_run c1 (ws := [(0, 0)]) (fl := [0]) (by intro p hp; rw [List.mem_singleton.1 hp]; exact ⟨rfl, by decide⟩) (by intro y; simp)
    refine ⟨c2, ?_, fun o h1 h2 h3 => ?_⟩
    · unfold savedV cntV2
      rw [v2 0 rfl]
      rfl
    · rw [v2 o h1]
      have e1 : updF (valueP ((storesI (savedX x) fl).foldl devI (fromP 10 x))) [(0, 0)] o = valueP ((storesI (savedX x) fl).foldl devI (fromP 10 x)) o := by
        unfold updF
        simp only [List.foldl_cons, List.foldl_nil]
        rw [if_neg (by omega)]
      rw [e1, v1 o h1]
      have hws : wsX x = savedX x := by unfold wsX; rw [List.filter_eq_self]; exact hok
      rw [hws]
      rw [updF_set o h1 ⟨h2, h3⟩ (savedX x) x _ hx hw (fromP_val hx h3)]
      rw [List.getD, List.getD, List.getElem?_set_ne (by omega)]
theorem Clean.dirty {R : Dv} (h : Clean R) : dirtyL R = [] := by
  unfold dirtyL
  rw [h.k.len]
  have : ∀ k, k ≤ 10 → dirtyTo R k = [] := by
    intro k
    induction k with
    | zero => intro _; rfl
    | succ k ih =>
      intro hk
      rw [dirtyTo_succ, h.h k (by omega), if_neg (by simp)]
      exact ih (by omega)
  exact this 10 (Nat.le_refl _)
/-- What the log of a device holds while it is as the plain law says. -/
theorem und_saved {R : Dv} {old : Nat → Nat} {E : List (Nat × Nat)} (h : Und R old E E.length [E.length]) : savedV R = E := by
  have e8 := h.e8
  have hc : valueP R 0 = E.length := List.mem_singleton.1 h.cnt.cur
  have h2 : cntV2 R = E.length := by unfold cntV2; rw [hc, if_neg (by omega)]
  apply List.ext_getElem?
  intro i
  rcases Nat.lt_or_ge i E.length with hi | hi
  · rw [savedV_get R (by rw [h2]; exact hi), List.getElem?_eq_getElem hi]
    obtain ⟨g1, g2⟩ := h.ent i E[i] (List.getElem?_eq_getElem hi)
    rw [List.mem_singleton.1 g1.cur, List.mem_singleton.1 g2.cur]
  · rw [List.getElem?_eq_none (by rw [savedV_len, h2]; exact hi), List.getElem?_eq_none hi]
/-- The entries that a crash image has name words outside of the log. -/
theorem ComA.alw {R : Dv} {old new : Nat → Nat} {T : Nat} (h : ComA old new R) (hok : R.Ok T) {kf : Nat → Nat} (hk : ∀ l, kf l ≤ (R.line l).hist.length) : ∀ p ∈ savedX (crashW R kf), okOff p.1 = true := by
  rcases h with ⟨E, n, C, h⟩ | ⟨E, n, C, h⟩
  · have hl := h.len
    have hc := h.cnt.crash hok kf hk (by omega)
    have := reads' h.len h.e8 h.ent hok hk rfl (h.cn _ hc).2
    intro p hp
    rw [this] at hp
    exact (h.ok p (List.mem_of_mem_take hp)).1
  · have hl := h.len
    have hc := h.cnt.crash hok kf hk (by omega)
    have hle : (crashW R kf).getD 0 0 ≤ E.length := by
      rcases h.cn _ hc with g | g
      · exact Nat.le_trans (Nat.le_of_eq g) (Nat.zero_le _)
      · exact g.2
    have := reads' h.len h.e8 h.ent hok hk rfl hle
    intro p hp
    rw [this] at hp
    exact (h.ok p (List.mem_of_mem_take hp)).1
end Go.Proofs.Ytjmdibgncaljaaa
