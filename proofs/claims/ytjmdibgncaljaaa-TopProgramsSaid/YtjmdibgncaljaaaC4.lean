/- The device and the graph of one and the same script (plain): what a script makes of both, step by step. The image of a cut is a crash image, and each crash image is the image of a cut (plain). script.Step on a device, of the events of kinds 1 to 5. script.Step on a device, of any good event; the run of a script. -/
import Derived.Test.YtjmdibgncaljaaaQ3
import Derived.Test.YtjmdibgncaljaaaQ7
import Derived.Test.YtjmdibgncaljaaaD11
import Derived.Test.YtjmdibgncaljaaaD16
import Derived.Test.YtjmdibgncaljaaaO17
import Derived.Test.YtjmdibgncaljaaaO6
import Derived.Test.YtjmdibgncaljaaaQ2
import Derived.Test.YtjmdibgncaljaaaV1
namespace Go.Proofs.Ytjmdibgncaljaaa

/-- The stores of a line, in their order. -/
def lws (ws : List (Nat × Nat)) (l : Nat) : List (Nat × Nat) := ws.filter fun p => decide (p.1 / 64 = l)
theorem lws_snoc (ws : List (Nat × Nat)) (p : Nat × Nat) (l : Nat) : lws (ws ++ [p]) l = if p.1 / 64 = l then lws ws l ++ [p] else lws ws l := by
  unfold lws
  rw [List.filter_append]
  by_cases h : p.1 / 64 = l
  · rw [if_pos h, List.filter_cons, if_pos (by simpa using h)]; rfl
  · rw [if_neg h, List.filter_cons, if_neg (by simpa using h)]; simp

structure Pair (R : Dev.Dv) (S : Rn) : Prop where
  off : R.off = false
  left : R.left = -1
  n : R.lines.length = S.G.n
  done : ∀ l, l < S.G.n → (R.line l).done = S.G.md.getD l 0
  cnt : ∀ l, l < S.G.n → (lws S.G.ws l).length = S.G.ct.getD l 0
  hist : ∀ l, l < S.G.n → (R.line l).hist = (lws S.G.ws l).drop (S.G.md.getD l 0)
  base : ∀ l, l < S.G.n → (R.line l).base = ((lws S.G.ws l).take (S.G.md.getD l 0)).foldl Dev.setW (List.replicate 8 0)
  cur : ∀ o, o % 8 = 0 → o < 64 * S.G.n → Dev.valueP R o = S.cur o
  note : ∀ t, t < 8 → ∀ l, Dev.noteF (R.notes.getD t []) l = S.note t l
/-- What an event makes of the device. -/
def devE (R : Dev.Dv) (e : Ev) : Dev.Dv :=
  if e.k = 1 then Dev.storeP R e.t e.off e.val
  else if e.k = 2 then Dev.casP R e.t e.off e.old e.val
  else if e.k = 3 then Dev.flushP R e.t e.off
  else if e.k = 4 then Dev.fenceP R e.t
  else Dev.backP R (e.line : Int) e.n

variable {R R' : Dev.Dv} {S : Rn} {T T' : Nat}
theorem Pair.all (h : Pair R S) {l : Nat} (hl : l < S.G.n) : Dev.allL (R.line l) = (lws S.G.ws l).foldl Dev.setW (List.replicate 8 0) := by
  unfold Dev.allL Dev.wordsL
  rw [List.take_length, h.hist l hl, h.base l hl, ← List.foldl_append, List.take_append_drop]
theorem Pair.words (h : Pair R S) {l : Nat} (hl : l < S.G.n) (k : Nat) : Dev.wordsL (R.line l) k = ((lws S.G.ws l).take (S.G.md.getD l 0 + k)).foldl Dev.setW (List.replicate 8 0) := by
  unfold Dev.wordsL
  rw [h.hist l hl, h.base l hl, ← List.foldl_append, List.take_add]
theorem Pair.hlen (h : Pair R S) {l : Nat} (hl : l < S.G.n) : (R.line l).hist.length = S.G.ct.getD l 0 - S.G.md.getD l 0 := by
  rw [h.hist l hl, List.length_drop, h.cnt l hl]
/-- The lines and the notes alone matter. -/
theorem Pair.same (h : Pair R S) (h1 : R'.lines = R.lines) (h2 : R'.notes = R.notes) (h3 : R'.off = false) (h4 : R'.left = -1) : Pair R' S := by
  have e : ∀ l, R'.line l = R.line l := fun l => by unfold Dev.Dv.line; rw [h1]
  exact ⟨h3, h4, by rw [h1]; exact h.n, fun l hl => by rw [e]; exact h.done l hl, h.cnt, fun l hl => by rw [e]; exact h.hist l hl, fun l hl => by rw [e]; exact h.base l hl,
    fun o h5 h6 => by rw [← h.cur o h5 h6]; unfold Dev.valueP; rw [e], fun t ht l => by rw [h2]; exact h.note t ht l⟩
theorem Pair.count (h : Pair R S) (t : Nat) (b : Bool) : Pair (Dev.countP R t b) S ∧ Dev.countB R b = b := by
  have h1 := h.off
  have h2 := h.left
  constructor
  · refine h.same (Dev.countP_lines R t b).1 (Dev.countP_lines R t b).2 ?_ ?_
    · unfold Dev.countP
      rw [if_neg (by rw [h1]; decide)]
      split
      · rw [if_neg (by rw [h2]; decide)]; exact h1
      · rw [(Dev.failP_lines _ _ _).2.2.2.1]; exact h1
    · unfold Dev.countP
      rw [if_neg (by rw [h1]; decide)]
      split
      · rw [if_neg (by rw [h2]; decide)]
        show (if 0 < R.left then R.left - 1 else R.left) = -1
        rw [h2]; rfl
      · rw [(Dev.failP_lines _ _ _).2.2.1]; exact h2
  · simp [Dev.countB, h1, h2]
theorem Pair.isB (h : Pair R S) (o : Nat) : R.isB o = decide (o < 64 * S.G.n ∧ o % 8 = 0) := by
  unfold Dev.Dv.isB; rw [h.n, decide_eq_decide]; exact And.comm
theorem Pair.inB (h : Pair R S) (o : Nat) : R.inB o = decide (o < 64 * S.G.n) := by unfold Dev.Dv.inB; rw [h.n]
theorem Pair.put (h : Pair R S) (ok : S.Ok T) (rk : R.Ok T') {o v : Nat} (h1 : o < 64 * S.G.n) (h2 : o % 8 = 0) : Pair (Dev.putP R o v) (storeP S o v) := by
  have hl : o / 64 < R.lines.length := by rw [h.n]; omega
  have hl' : o / 64 < S.G.n := by omega
  have e : ∀ l, (Dev.putP R o v).line l = if l = o / 64 then Dev.putL (R.line (o / 64)) (o, v) else R.line l := fun l => Dev.setLine_line _ hl l
  have ew : ∀ l, lws (storeP S o v).G.ws l = if o / 64 = l then lws S.G.ws l ++ [(o, v)] else lws S.G.ws l := fun l => lws_snoc _ _ _
  have hmc := ok.mc
  refine ⟨h.off, h.left, ?_, fun l hl => ?_, fun l hl => ?_, fun l hl => ?_, fun l hl => ?_, fun o' h3 h4 => ?_, h.note⟩
  · rw [show (Dev.putP R o v).lines.length = R.lines.length from Dev.setLine_len _ _ _]; exact h.n
  · rw [e]
    split
    · subst_vars; exact h.done _ hl
    · exact h.done l hl
  · rw [ew]
    show _ = (S.G.ct.set (o / 64) (S.G.ct.getD (o / 64) 0 + 1)).getD l 0
    rw [getD_set_nat _ _ _ _ (by rw [ok.cl]; exact hl')]
    split
    · subst_vars; rw [if_pos rfl, List.length_append, h.cnt _ hl]; rfl
    · rw [if_neg (by omega)]; exact h.cnt l hl
  · rw [e, ew]
    show _ = List.drop (S.G.md.getD l 0) _
    split
    · subst_vars
      rw [if_pos rfl, List.drop_append_of_le_length (by rw [h.cnt _ hl]; exact hmc _), ← h.hist _ hl]; rfl
    · rw [if_neg (by omega)]; exact h.hist l hl
  · rw [e, ew]
    show _ = (List.take (S.G.md.getD l 0) _).foldl _ _
    split
    · subst_vars
      rw [if_pos rfl, List.take_append_of_le_length (by rw [h.cnt _ hl]; exact hmc _)]; exact h.base _ hl
    · rw [if_neg (by omega)]; exact h.base l hl
  · show _ = if o' = o then v else S.cur o'
    have hb : (Dev.allL (R.line (o / 64))).length = 8 := by unfold Dev.allL; rw [Dev.wordsL_len]; exact (rk.ln _ hl).b
    unfold Dev.valueP
    rw [e]
    by_cases ho : o' = o
    · subst ho
      rw [if_pos rfl, if_pos rfl, Dev.allL_put]
      show ((Dev.allL _).set (o' % 64 / 8) v).getD (o' % 64 / 8) 0 = v
      rw [getD_set_nat _ _ _ _ (by rw [hb]; omega), if_pos rfl]
    · rw [if_neg ho, ← h.cur o' h3 h4]
      split
      · rename_i el
        rw [Dev.allL_put]
        show ((Dev.allL _).set (o % 64 / 8) v).getD (o' % 64 / 8) 0 = _
        rw [getD_set_nat _ _ _ _ (by rw [hb]; omega), if_neg (by omega)]
        unfold Dev.valueP; rw [el]
      · rfl
/-- Some first stores of lines become persistent. -/
theorem Pair.pers (h : Pair R S) (g : Nat → Nat) (S' : Rn) (e1 : S'.G.n = S.G.n) (e2 : S'.G.ws = S.G.ws) (e3 : S'.G.ct = S.G.ct) (e4 : S'.cur = S.cur) (h1 : R'.off = false) (h2 : R'.left = -1) (h3 : R'.lines.length = R.lines.length)
    (hg : ∀ l, l < S.G.n → S'.G.md.getD l 0 = S.G.md.getD l 0 + g l ∧ g l ≤ (R.line l).hist.length ∧ R'.line l = Dev.persistL (R.line l) (g l)) (h4 : ∀ t, t < 8 → ∀ l, Dev.noteF (R'.notes.getD t []) l = S'.note t l) : Pair R' S' := by
  refine ⟨h1, h2, by rw [h3, e1]; exact h.n, fun l hl => ?_, fun l hl => ?_, fun l hl => ?_, fun l hl => ?_, fun o h5 h6 => ?_, h4⟩
  · rw [e1] at hl
    obtain ⟨a, _, c⟩ := hg l hl
    rw [c, a]; show (R.line l).done + g l = _; rw [h.done l hl]
  · rw [e1] at hl; rw [e2, e3]; exact h.cnt l hl
  · rw [e1] at hl
    obtain ⟨a, _, c⟩ := hg l hl
    rw [c, a, e2]; show (R.line l).hist.drop (g l) = _; rw [h.hist l hl, List.drop_drop]
  · rw [e1] at hl
    obtain ⟨a, _, c⟩ := hg l hl
    rw [c, a, e2]; exact h.words hl (g l)
  · rw [e1] at h6
    obtain ⟨_, b, c⟩ := hg (o / 64) (by omega)
    unfold Dev.valueP
    rw [c, Dev.allL_persist _ _ b, e4]; exact h.cur o h5 h6
theorem Pair.noted (h : Pair R S) (rk : R.Ok T') (ok : S.Ok T) {t l : Nat} (ht : t < 8) (hl : l < S.G.n) : Pair (Dev.notedP R t l) (noteP S t l (S.G.ct.getD l 0)) := by
  refine ⟨h.off, h.left, h.n, h.done, h.cnt, h.hist, h.base, h.cur, fun t' ht' l' => ?_⟩
  show Dev.noteF ((R.notes.set t (Dev.noteL (R.notes.getD t []) l ((R.line l).done + (R.line l).hist.length))).getD t' []) l' = if t' = t ∧ l' = l then some (S.G.ct.getD l 0) else S.note t' l'
  rw [Dev.getD_set _ _ _ _ _ (by rw [rk.nl]; exact ht)]
  have hc : (R.line l).done + (R.line l).hist.length = S.G.ct.getD l 0 := by have := ok.mc l; rw [h.done l hl, h.hlen hl]; omega
  by_cases e : t' = t
  · subst e
    rw [if_pos rfl, Dev.noteF_noteL, hc]
    show (if l' = l then some (S.G.ct.getD l 0) else Dev.noteF (R.notes.getD t' []) l') = _
    by_cases e2 : l' = l
    · rw [if_pos e2, if_pos ⟨rfl, e2⟩]
    · rw [if_neg e2, if_neg (fun h => e2 h.2)]; exact h.note t' ht' l'
  · rw [if_neg e, if_neg (fun h => e h.1)]; exact h.note t' ht' l'
theorem Pair.fenced (h : Pair R S) (rk : R.Ok T') (ok : S.Ok T) {t : Nat} (ht : t < 8) : Pair (Dev.fencedP R t) (fenceP S t) := by
  obtain ⟨hlen, hln⟩ := Dev.fold_fence (R.notes.getD t []) R.lines (rk.nd t ht) (fun x hx => (rk.no t ht x hx).1)
  refine h.pers (fun l => match S.note t l with | none => 0 | some c => c - S.G.md.getD l 0) _ rfl rfl rfl rfl h.off h.left hlen (fun l hl => ?_) (fun t' ht' l' => ?_)
  · have e1 := fenceL_get S t l hl
    have e2 : (Dev.fencedP R t).line l = match Dev.noteF (R.notes.getD t []) l with | none => R.line l | some c => Dev.fenL (R.line l) c := hln l (by rw [h.n]; exact hl)
    rw [h.note t ht l] at e2
    rw [show (fenceP S t).G.md = fenceL S t from rfl, e1, e2]
    cases hn : S.note t l with
    | none => exact ⟨rfl, Nat.zero_le _, (Dev.persistL_zero _).symm⟩
    | some c =>
      have hc := (ok.no _ _ _ hn).2
      simp only
      refine ⟨by omega, by rw [h.hlen hl]; omega, ?_⟩
      unfold Dev.fenL
      rw [h.done l hl]
      split
      · rfl
      · rw [show c - S.G.md.getD l 0 = 0 by omega, Dev.persistL_zero]
  · show Dev.noteF ((R.notes.set t []).getD t' []) l' = if t' = t then none else S.note t' l'
    rw [Dev.getD_set _ _ _ _ _ (by rw [rk.nl]; exact ht)]
    by_cases e : t' = t
    · rw [if_pos e, if_pos e]; rfl
    · rw [if_neg e, if_neg e]; exact h.note t' ht' l'
theorem Pair.back (h : Pair R S) (ok : S.Ok T) {l : Nat} {k : Int} (hk : 0 ≤ k) : Pair (Dev.backP R (l : Int) k) (if l < S.G.n ∧ k ≤ (S.G.ct.getD l 0 : Int) - (S.G.md.getD l 0 : Int) then backP S l k.toNat else S) := by
  have hmc := ok.mc l
  by_cases hc : l < S.G.n ∧ k ≤ (S.G.ct.getD l 0 : Int) - (S.G.md.getD l 0 : Int)
  · have hl := h.hlen hc.1
    have hb : Dev.backB R (l : Int) k = true := by
      unfold Dev.backB
      rw [h.off, Int.toNat_natCast, h.n, hl, decide_eq_true (by omega)]; rfl
    unfold Dev.backP
    rw [if_pos hb, if_pos hc, Int.toNat_natCast]
    refine h.pers (fun l' => if l' = l then k.toNat else 0) _ rfl rfl rfl rfl h.off h.left (Dev.setLine_len _ _ _) (fun l' hl' => ?_) h.note
    rw [Dev.setLine_line _ (by rw [h.n]; exact hc.1)]
    show (S.G.md.set l (S.G.md.getD l 0 + k.toNat)).getD l' 0 = _ ∧ _
    rw [getD_set_nat _ _ _ _ (by rw [ok.ml]; exact hc.1)]
    by_cases e : l' = l
    · subst e
      simp only [if_true]
      exact ⟨trivial, by omega, trivial⟩
    · simp only [if_neg e]
      exact ⟨rfl, Nat.zero_le _, (Dev.persistL_zero _).symm⟩
  · have hb : Dev.backB R (l : Int) k = false := by
      unfold Dev.backB
      rw [h.off, Int.toNat_natCast, h.n]
      by_cases hl : l < S.G.n
      · rw [h.hlen hl, decide_eq_false (by omega)]; rfl
      · rw [decide_eq_false (by omega)]; rfl
    unfold Dev.backP
    rw [hb, if_neg hc]
    exact h
theorem Pair.step (h : Pair R S) (rk : R.Ok T') (hT : T' + 1 ≤ 100000) (ok : S.Ok T) {e : Ev} (he : e.Fit) : Pair (devE R e) (execP S e) := by
  obtain ⟨k1, k5⟩ := he.k
  have ht := he.t
  unfold devE execP
  by_cases h1 : e.k = 1
  · rw [if_pos h1, if_pos h1]
    obtain ⟨c1, c2⟩ := h.count e.t (R.isB e.off)
    unfold Dev.storeP
    rw [c2]
    rw [h.isB] at c1 ⊢
    by_cases hc : e.off < 64 * S.G.n ∧ e.off % 8 = 0
    · rw [if_pos (decide_eq_true hc), if_pos hc]
      exact c1.put ok (Dev.countP_ok rk hT _ _) hc.1 hc.2
    · rw [if_neg (by simpa using hc), if_neg hc]
      exact c1
  rw [if_neg h1, if_neg h1]
  by_cases h2 : e.k = 2
  · rw [if_pos h2, if_pos h2]
    obtain ⟨c1, c2⟩ := h.count e.t (R.isB e.off)
    unfold Dev.casP Dev.casB
    rw [c2]
    rw [h.isB] at c1 ⊢
    by_cases hc : e.off < 64 * S.G.n ∧ e.off % 8 = 0
    · rw [decide_eq_true hc, Bool.true_and]
      rw [h.cur e.off hc.2 hc.1]
      rw [decide_eq_true hc] at c1
      by_cases ho : S.cur e.off = e.old
      · rw [if_pos (decide_eq_true ho), if_pos ⟨hc, ho⟩]
        exact c1.put ok (Dev.countP_ok rk hT _ _) hc.1 hc.2
      · rw [if_neg (by simpa using ho), if_neg (fun h => ho h.2)]
        exact c1
    · rw [decide_eq_false hc, Bool.false_and, if_neg (by decide), if_neg (fun h => hc h.1)]
      rw [decide_eq_false hc] at c1
      exact c1
  rw [if_neg h2, if_neg h2]
  by_cases h3 : e.k = 3
  · rw [if_pos h3, if_pos h3]
    obtain ⟨c1, c2⟩ := h.count e.t (R.inB e.off)
    unfold Dev.flushP
    rw [c2]
    rw [h.inB] at c1 ⊢
    by_cases hc : e.off < 64 * S.G.n
    · rw [if_pos (decide_eq_true hc), if_pos hc]
      exact c1.noted (Dev.countP_ok rk hT _ _) ok ht (by omega)
    · rw [if_neg (by simpa using hc), if_neg hc]
      exact c1
  rw [if_neg h3, if_neg h3]
  by_cases h4 : e.k = 4
  · rw [if_pos h4, if_pos h4]
    obtain ⟨c1, c2⟩ := h.count e.t true
    unfold Dev.fenceP
    rw [c2, if_pos rfl]
    exact c1.fenced (Dev.countP_ok rk hT _ _) ok ht
  have h5 : e.k = 5 := by omega
  rw [if_neg h4, if_neg h4, if_pos h5]
  exact h.back ok (he.n h5)
theorem Pair.init (n : Nat) : Pair (Dev.newP n) (initR n) := by
  have hl : ∀ l, l < n → (Dev.newP n).line l = ⟨List.replicate 8 0, [], 0⟩ := fun l hl => Dev.newP_line n l hl
  have hz : ∀ l, (List.replicate n (0 : Nat)).getD l 0 = 0 := fun l => by
    by_cases h : l < n
    · exact Dev.rep_getD n l 0 0 h
    · rw [List.getD, List.getElem?_eq_none (by simp; omega)]; rfl
  refine ⟨rfl, rfl, by simp [Dev.newP, initR], fun l h => ?_, fun l h => ?_, fun l h => ?_, fun l h => ?_, fun o h1 h2 => ?_, fun t ht l => ?_⟩
  · rw [hl l h]; exact (hz l).symm
  · exact (hz l).symm
  · rw [hl l h]; simp [initR, lws]
  · rw [hl l h]; simp [initR, lws]
  · have h2 : o < 64 * n := h2
    unfold Dev.valueP
    rw [hl _ (by omega)]
    exact Dev.rep_getD 8 _ 0 0 (by omega)
  · rw [show (Dev.newP n).notes.getD t [] = [] from Dev.rep_getD 8 t [] [] ht]; rfl
end Go.Proofs.Ytjmdibgncaljaaa

namespace Go.Proofs.Ytjmdibgncaljaaa

theorem inn_at (k : Nat) : ∀ (set : List Int) (l : List Bool), (∀ i ∈ set, 0 ≤ i) → k < l.length → (set.foldl (fun l i => l.set i.toNat true) l).getD k false = (decide ((k : Int) ∈ set) || l.getD k false)
  | [], l, _, _ => by simp
  | i :: set, l, h, hk => by
    have h0 := h i (List.mem_cons_self ..)
    rw [List.foldl_cons, inn_at k set _ (fun x hx => h x (List.mem_cons_of_mem _ hx)) (by simpa using hk)]
    have e1 : (l.set i.toNat true).getD k false = if i.toNat = k then true else l.getD k false := by
      rw [List.getD, List.getD, List.getElem?_set]
      by_cases e : i.toNat = k
      · rw [if_pos e, if_pos e, if_pos (by omega)]; rfl
      · rw [if_neg e, if_neg e]
    rw [e1]
    by_cases e : i.toNat = k
    · have : (k : Int) ∈ i :: set := by rw [show (k : Int) = i by omega]; exact List.mem_cons_self ..
      rw [if_pos e, decide_eq_true this]; simp
    · have : ((k : Int) ∈ i :: set) ↔ (k : Int) ∈ set := by
        rw [List.mem_cons]
        exact ⟨fun h => h.resolve_left (by omega), .inr⟩
      rw [if_neg e, decide_eq_decide.2 this]
theorem inn_cut (G : Gr) (taken : List Nat) (k : Nat) (hk : k < G.ws.length) : (innOf G (natsI (cutL G taken))).getD k false = decide (G.rk.getD k 0 < taken.getD (G.line k) 0) := by
  unfold innOf
  rw [inn_at k _ _ (fun i hi => by unfold natsI at hi; obtain ⟨x, _, rfl⟩ := List.mem_map.1 hi; omega) (by simpa using hk)]
  have e0 : (List.replicate G.ws.length false).getD k false = false := by rw [List.getD, List.getElem?_replicate, if_pos hk]; rfl
  rw [e0, Bool.or_false, decide_eq_decide]
  unfold natsI cutL cutK
  simp only [List.mem_map, List.mem_filter, List.mem_range, decide_eq_true_eq]
  constructor
  · rintro ⟨x, ⟨_, h⟩, e⟩
    rwa [show x = k by omega] at h
  · exact fun h => ⟨k, ⟨hk, h⟩, rfl⟩

/-! ### bytes -/
theorem putW_get (off v : Nat) : ∀ (m : Nat) (p : List Nat) (i : Nat), i < p.length → (putW p off v m).getD i 0 = if off ≤ i ∧ i < off + m then v / 2 ^ (8 * (i - off)) % 256 else p.getD i 0
  | 0, p, i, _ => by rw [if_neg (by omega)]; rfl
  | m + 1, p, i, h => by
    show ((putW p off v m).set (off + m) (v / 2 ^ (8 * m) % 256)).getD i 0 = _
    rw [List.getD, List.getElem?_set]
    by_cases e : off + m = i
    · subst e
      rw [if_pos rfl, if_pos (by rw [putW_length]; exact h), if_pos (by omega), Nat.add_sub_cancel_left]; rfl
    · rw [if_neg e]
      show (putW p off v m).getD i 0 = _
      rw [putW_get off v m p i h]
      by_cases e2 : off ≤ i ∧ i < off + m
      · rw [if_pos e2, if_pos (by omega)]
      · rw [if_neg e2, if_neg (by omega)]
theorem bytesL_at (ws : List Nat) (i : Nat) (h : i < ws.length * 8) : (Dev.bytesL ws).getD i 0 = ws.getD (i / 8) 0 / 2 ^ (i % 8 * 8) % 256 := Dev.getD_of 0 (Dev.bytesL_get ws i h)
theorem nats_ext {a b : List Nat} (hl : a.length = b.length) (h : ∀ i, i < a.length → a.getD i 0 = b.getD i 0) : a = b := by
  apply List.ext_getElem?
  intro i
  rcases Nat.lt_or_ge i a.length with h1 | h1
  · rw [Dev.get_of_lt 0 h1, Dev.get_of_lt 0 (by omega), h i h1]
  · rw [List.getElem?_eq_none h1, List.getElem?_eq_none (by omega)]
theorem bytes_set (ws : List Nat) (off v : Nat) (ha : off % 8 = 0) (ho : off / 8 < ws.length) : Dev.bytesL (ws.set (off / 8) v) = putW (Dev.bytesL ws) off v 8 := by
  refine nats_ext (by rw [putW_length, Dev.bytesL_len, Dev.bytesL_len, List.length_set]) fun i hi => ?_
  rw [Dev.bytesL_len, List.length_set] at hi
  rw [bytesL_at _ _ (by rw [List.length_set]; exact hi), putW_get off v 8 _ i (by rw [Dev.bytesL_len]; exact hi), bytesL_at ws i hi, getD_set_nat _ _ _ _ ho]
  by_cases e : i / 8 = off / 8
  · rw [if_pos e, if_pos (by omega), show i % 8 * 8 = 8 * (i - off) by omega]
  · rw [if_neg e, if_neg (by omega)]

/-! ### the content, store by store -/
def selW (G : Gr) (taken : List Nat) (N l : Nat) : List (Nat × Nat) := (lws (G.ws.take N) l).take (taken.getD l 0)
def conL (G : Gr) (taken : List Nat) (N : Nat) : List (List Nat) := (List.range G.n).map fun l => (selW G taken N l).foldl Dev.setW (List.replicate 8 0)
theorem conL_get (G : Gr) (taken : List Nat) (N l : Nat) (h : l < G.n) : (conL G taken N)[l]? = some ((selW G taken N l).foldl Dev.setW (List.replicate 8 0)) := by
  unfold conL; rw [List.getElem?_map, List.getElem?_range h]; rfl
theorem conL_len (G : Gr) (taken : List Nat) (N : Nat) : (conL G taken N).length = G.n := by simp [conL]
theorem conL_8 (G : Gr) (taken : List Nat) (N : Nat) : ∀ x ∈ conL G taken N, (x : List Nat).length = 8 := by
  intro x hx
  unfold conL at hx
  obtain ⟨l, _, rfl⟩ := List.mem_map.1 hx
  show (List.foldl Dev.setW (List.replicate 8 0) (selW G taken N l)).length = 8
  rw [Dev.fold_setW_len]; simp
def flatC (G : Gr) (taken : List Nat) (N : Nat) : List Nat := (conL G taken N).flatMap fun x : List Nat => x
theorem flatC_len (G : Gr) (taken : List Nat) (N : Nat) : (flatC G taken N).length = 8 * G.n := by unfold flatC; rw [Dev.flat_len _ _ (conL_8 G taken N), conL_len]
theorem selW_succ {G : Gr} (cg : G.Count) (taken : List Nat) (N l : Nat) (h : N < G.ws.length) :
    selW G taken (N + 1) l = if G.line N = l ∧ G.rk.getD N 0 < taken.getD l 0 then selW G taken N l ++ [G.ws.getD N (0, 0)] else selW G taken N l := by
  unfold selW
  rw [List.take_add_one, Dev.get_of_lt (0, 0) h]
  show (lws (G.ws.take N ++ [G.ws.getD N (0, 0)]) l).take _ = _
  rw [lws_snoc]
  change (if G.line N = l then _ else _ : List (Nat × Nat)).take _ = _
  by_cases e : G.line N = l
  · rw [if_pos e]
    have hr : G.rk.getD N 0 = (lws (G.ws.take N) l).length := by rw [cg.rank N h, e]; rfl
    rw [hr]
    by_cases c : (lws (G.ws.take N) l).length < taken.getD l 0
    · have c1 : (lws (G.ws.take N) l ++ [G.ws.getD N (0, 0)]).length ≤ taken.getD l 0 := by rw [List.length_append]; exact c
      have c2 : (lws (G.ws.take N) l).length ≤ taken.getD l 0 := Nat.le_of_lt c
      rw [if_pos ⟨e, c⟩, List.take_of_length_le c1, List.take_of_length_le c2]
    · rw [if_neg (fun x => c x.2), List.take_append_of_le_length (Nat.not_lt.1 c)]
  · rw [if_neg e, if_neg (fun x => e x.1)]
theorem flatC_zero (G : Gr) (taken : List Nat) : Dev.bytesL (flatC G taken 0) = List.replicate (G.n * 64) 0 := by
  have hz : flatC G taken 0 = List.replicate (8 * G.n) 0 := by
    have e : conL G taken 0 = List.replicate G.n (List.replicate 8 0) := by
      apply List.ext_getElem?
      intro l
      by_cases h : l < G.n
      · rw [conL_get G taken 0 l h, List.getElem?_replicate, if_pos h]; simp [selW, lws]
      · rw [List.getElem?_eq_none (by rw [conL_len]; omega), List.getElem?_eq_none (by simp; omega)]
    unfold flatC
    rw [e]
    apply List.eq_replicate_iff.2
    refine ⟨?_, fun x hx => ?_⟩
    · rw [Dev.flat_len _ _ (fun x hx => by rw [List.eq_of_mem_replicate hx]; rfl)]; simp
    · obtain ⟨y, hy, hx⟩ := List.mem_flatMap.1 hx
      rw [List.eq_of_mem_replicate hy] at hx
      exact List.eq_of_mem_replicate hx
  rw [hz]
  refine nats_ext (by rw [Dev.bytesL_len]; simp; omega) fun i hi => ?_
  rw [Dev.bytesL_len, List.length_replicate] at hi
  rw [bytesL_at _ _ (by simpa using hi), Dev.rep_getD _ _ _ _ (by omega), Dev.rep_getD _ _ _ _ (by omega)]
  simp
theorem flatC_succ {G : Gr} (ok : G.Ok) (cg : G.Count) (taken : List Nat) (N : Nat) (h : N < G.ws.length) :
    Dev.bytesL (flatC G taken (N + 1)) = if G.rk.getD N 0 < taken.getD (G.line N) 0 then putW (Dev.bytesL (flatC G taken N)) (G.ws.getD N (0, 0)).1 (G.ws.getD N (0, 0)).2 8 else Dev.bytesL (flatC G taken N) := by
  obtain ⟨hoff, _⟩ := ok.off _ (Dev.mem_getD (0, 0) h)
  have hal := ok.al _ (Dev.mem_getD (0, 0) h)
  have hline : G.line N = (G.ws.getD N (0, 0)).1 / 64 := rfl
  have hs := selW_succ cg taken N
  by_cases c : G.rk.getD N 0 < taken.getD (G.line N) 0
  · rw [if_pos c, ← bytes_set _ _ _ hal (by rw [flatC_len]; omega)]
    congr 1
    have hl : G.line N < G.n := by omega
    have e : conL G taken (N + 1) = (conL G taken N).set (G.line N) (Dev.setW ((selW G taken N (G.line N)).foldl Dev.setW (List.replicate 8 0)) (G.ws.getD N (0, 0))) := by
      apply List.ext_getElem?
      intro l
      by_cases hln : l < G.n
      · rw [conL_get _ _ _ _ hln, List.getElem?_set, hs l h]
        by_cases e : G.line N = l
        · subst e
          rw [if_pos ⟨rfl, c⟩, if_pos rfl, if_pos (by rw [conL_len]; exact hl), List.foldl_append]; rfl
        · rw [if_neg (fun x => e x.1), if_neg e, conL_get _ _ _ _ hln]
      · rw [List.getElem?_eq_none (by rw [conL_len]; omega), List.getElem?_eq_none (by rw [List.length_set, conL_len]; omega)]
    unfold flatC
    rw [e]
    refine (Dev.flat_set (fun x : List Nat => x) (conL G taken N) (conL_8 G taken N) (G.line N) ((G.ws.getD N (0, 0)).1 % 64 / 8) _ _ (G.ws.getD N (0, 0)).2 (conL_get _ _ _ _ hl) (by omega) rfl).trans ?_
    congr 1
    omega
  · rw [if_neg c]
    have e : conL G taken (N + 1) = conL G taken N := by
      unfold conL
      apply List.map_congr_left
      intro l _
      rw [hs l h, if_neg (fun x => c (by rw [x.1]; exact x.2))]
    unfold flatC; rw [e]
theorem img_flat {G : Gr} (ok : G.Ok) (cg : G.Count) (taken : List Nat) : ∀ N, N ≤ G.ws.length → imgK G (innOf G (natsI (cutL G taken))) N = Dev.bytesL (flatC G taken N)
  | 0, _ => (flatC_zero G taken).symm
  | N + 1, h => by
    show (if (innOf G (natsI (cutL G taken))).getD N false then putW (imgK G _ N) _ _ 8 else imgK G _ N) = _
    rw [img_flat ok cg taken N (by omega), inn_cut G taken N (by omega), flatC_succ ok cg taken N (by omega)]
    by_cases c : G.rk.getD N 0 < taken.getD (G.line N) 0
    · rw [if_pos c, if_pos (decide_eq_true c)]
    · rw [if_neg c, if_neg (by simpa using c)]
/-- The image of the cut that takes kf further stores of each line is the crash image of kf. -/
theorem cut_image {R : Dev.Dv} {S : Rn} (h : Pair R S) (ok : S.G.Ok) (cg : S.G.Count) (kf : Nat → Nat) (taken : List Nat) (ht : ∀ l, l < S.G.n → taken.getD l 0 = S.G.md.getD l 0 + kf l) :
    imgP S.G (natsI (cutL S.G taken)) = Dev.bytesL (Dev.crashW R kf) := by
  unfold imgP
  rw [img_flat ok cg taken _ (Nat.le_refl _)]
  congr 1
  unfold flatC Dev.crashW Dev.crashLs conL
  rw [List.flatMap_def, List.flatMap_def, List.map_map, List.map_map, h.n]
  congr 1
  apply List.map_congr_left
  intro l hl
  rw [List.mem_range] at hl
  show (selW S.G taken S.G.ws.length l).foldl _ _ = Dev.wordsL (R.line l) (kf l)
  rw [h.words hl, ← ht l hl]
  unfold selW
  rw [List.take_length]

/-! ### the number of a choice -/
def undig (b f : Nat → Nat) : Nat → Nat
  | 0 => 0
  | m + 1 => undig b f m * b m + f m
theorem undig_lt {b f : Nat → Nat} : ∀ m, (∀ x, x < m → f x < b x) → undig b f m < prodB b m
  | 0, _ => Nat.one_pos
  | m + 1, h => by
    have ih := undig_lt m (fun x hx => h x (by omega))
    have hm := h m (by omega)
    show undig b f m * b m + f m < prodB b m * b m
    have := Nat.mul_le_mul_right (b m) (show undig b f m + 1 ≤ prodB b m from ih)
    rw [Nat.add_mul, Nat.one_mul] at this
    omega
theorem dig_undig {b f : Nat → Nat} : ∀ m, (∀ x, x < m → f x < b x) → ∀ x, x < m → dig b m (undig b f m) x = f x
  | 0, _, x, hx => absurd hx (Nat.not_lt_zero _)
  | m + 1, h, x, hx => by
    have hm := h m (by omega)
    show (if x = m then (undig b f m * b m + f m) % b m else dig b m ((undig b f m * b m + f m) / b m) x) = f x
    by_cases e : x = m
    · subst e; rw [if_pos rfl, Nat.mul_comm, Nat.mul_add_mod, Nat.mod_eq_of_lt hm]
    · rw [if_neg e, Nat.mul_comm, Nat.mul_add_div (by omega), Nat.div_eq_of_lt hm, Nat.add_zero]
      exact dig_undig m (fun x hx => h x (by omega)) x (by omega)
theorem dig_lt {b : Nat → Nat} (hb : ∀ x, 1 ≤ b x) : ∀ m n x, dig b m n x < b x
  | 0, _, x => hb x
  | m + 1, n, x => by
    show (if x = m then _ else _) < _
    split
    · subst_vars; exact Nat.mod_lt _ (hb _)
    · exact dig_lt hb m _ x
/-- Each crash image is the image of a cut; and each cut's image is a crash image. -/
theorem crash_cut {R : Dev.Dv} {S : Rn} (h : Pair R S) (ok : S.G.Ok) (cg : S.G.Count) (kf : Nat → Nat) (hk : ∀ l, l < S.G.n → kf l ≤ (R.line l).hist.length) :
    ∃ N, N < prodB (bsG S.G) S.G.n ∧ imgP S.G (natsI (cutL S.G (takenN S.G N))) = Dev.bytesL (Dev.crashW R kf) := by
  have hlt : ∀ x, x < S.G.n → kf x < bsG S.G x := fun x hx => by have := hk x hx; rw [h.hlen hx] at this; unfold bsG; omega
  refine ⟨undig (bsG S.G) kf S.G.n, undig_lt _ hlt, cut_image h ok cg kf _ fun l hl => ?_⟩
  rw [takenN_get _ _ _ hl, dig_undig _ hlt l hl]
theorem cut_crash {R : Dev.Dv} {S : Rn} (h : Pair R S) (ok : S.G.Ok) (cg : S.G.Count) (N : Nat) :
    imgP S.G (natsI (cutL S.G (takenN S.G N))) = Dev.bytesL (Dev.crashW R (dig (bsG S.G) S.G.n N)) :=
  cut_image h ok cg _ _ fun l hl => takenN_get _ _ _ hl
theorem taken_closed {G : Gr} (ok : G.Ok) (cg : G.Count) (N : Nat) : closedP G (natsI (cutL G (takenN G N))) = true := by
  refine cut_closed ok cg _ (fun l hl => ?_) (fun l hl => ?_)
  · rw [takenN_get _ _ _ hl]; omega
  · rw [takenN_get _ _ _ hl]
    have h1 := dig_lt (bsG_pos G) G.n N l
    have h2 := ok.mc l
    unfold bsG at h1 ⊢; omega
end Go.Proofs.Ytjmdibgncaljaaa

namespace Go.Proofs.Ytjmdibgncaljaaa
open Go.RowKit Dev
variable {w : World} {F : Dev.Own} {T : Nat} {L : Lay} {R : Dv}
set_option maxHeartbeats 1000000 in
theorem sword_any (h : DevSt w F 0 L T R) (off : Nat) (ho : off < 18446744073709551616) : Calls Try.prog 44 #[.pointer (some ⟨L.g, 0, none⟩), .int .u64 (off : Int)] w fun e w' => e = .returned (.bool (R.isB off)) ∧ w = w' := by
  have hs := Lib.hid (size_any h)
  have hn := h.ok.n2
  clear h
  unfold Dv.isB
  generalize R.lines.length = N at *
  by_cases h8 : off % 8 = 0
  · have h8I : (off : Int) % 8 = 0 := by omega
    by_cases hl : off < 64 * N
    · have hlI : decide ((off : Int) < (N : Int) * 64) = true := decide_eq_true (by omega)
      have hb : decide (off % 8 = 0 ∧ off < 64 * N) = true := decide_eq_true ⟨h8, hl⟩
      rw [hb]
      clear hb
      go_enter Try.func44, Try.ntmps44
      go_wp2_with fail
      refine hs.out.mono ?_
      rintro e w' ⟨rfl, rfl⟩
      go_wp2_with fail
      go_ret
      exact ⟨rfl, rfl⟩
    · have hlI : decide ((off : Int) < (N : Int) * 64) = false := decide_eq_false (by omega)
      have hb : decide (off % 8 = 0 ∧ off < 64 * N) = false := decide_eq_false (fun x => hl x.2)
      rw [hb]
      clear hb
      go_enter Try.func44, Try.ntmps44
      go_wp2_with fail
      refine hs.out.mono ?_
      rintro e w' ⟨rfl, rfl⟩
      go_wp2_with fail
      go_ret
      exact ⟨rfl, rfl⟩
  · have h8I : ¬ (off : Int) % 8 = 0 := by omega
    have hb : decide (off % 8 = 0 ∧ off < 64 * N) = false := decide_eq_false (fun x => h8 x.1)
    rw [hb]
    clear hb
    go_enter Try.func44, Try.ntmps44
    go_wp2_with fail
    go_ret
    exact ⟨rfl, rfl⟩
def StepPost (w : World) (F : Dev.Own) (L : Lay) (T : Nat) (R : Dv) (e : Ending) (w' : World) : Prop :=
  ∃ F' b er, e = .returned (.tuple #[.pointer (some ⟨L.g, 0, none⟩), .bool b, .int .i64 er]) ∧ (er = 0 ∨ er = 2) ∧ DevSt w' F' 0 L T R ∧ Dstep w F 0 w' F'

set_option maxHeartbeats 2000000 in
set_option maxRecDepth 100000 in
theorem step1 (h : DevSt w F 0 L T R) (hT : T + 2 ≤ 100000) (t off val old line : Nat) (n : Int) (ca : Option Addr) (cl cc : Nat) (ht : t < 8) (ho : off < 18446744073709551616) (hvl : val < 18446744073709551616)
    (hv : validP 1 t off val old line n cl = true) (hof : (Dev.storeP R t off val).off = false) :
    Calls Try.prog 10 #[.pointer (some ⟨L.g, 0, none⟩), .agg #[.int .u8 1, .int .i64 (t : Int), .int .u64 (off : Int), .int .u64 (val : Int), .int .u64 (old : Int), .int .i64 (line : Int), .int .i64 n, .slice ca cl cc]] w (StepPost w F L (T + 2) (Dev.storeP R t off val)) := by
  generalize hpost : StepPost w F L (T + 2) (Dev.storeP R t off val) = post
  have h1 : DevSt w (F.trim w) 0 L T R := h.trim
  have hF0 : (F.trim w) w.heap.size = none := F.trim_new w (Nat.le_refl _)
  have hE := Has.new w [.int .u8 1, .int .i64 (t : Int), .int .u64 (off : Int), .int .u64 (val : Int), .int .u64 (old : Int), .int .i64 (line : Int), .int .i64 n, .slice ca cl cc] 30
  have hB0 : Below w.heap.size w (w.alloc (.cells [.int .u8 1, .int .i64 (t : Int), .int .u64 (off : Int), .int .u64 (val : Int), .int .u64 (old : Int), .int .i64 (line : Int), .int .i64 n, .slice ca cl cc].toArray 30)) := (Below.refl _ _).alloc (Nat.le_refl _) _
  have hD0 := h1.below hB0
  have hval := valid_any 1 t off val old line n ca cl cc (w.alloc (.cells [.int .u8 1, .int .i64 (t : Int), .int .u64 (off : Int), .int .u64 (val : Int), .int .u64 (old : Int), .int .i64 (line : Int), .int .i64 n, .slice ca cl cc].toArray 30))
  rw [hv] at hval
  have hS0 : Dstep w F 0 (w.alloc (.cells [.int .u8 1, .int .i64 (t : Int), .int .u64 (off : Int), .int .u64 (val : Int), .int .u64 (old : Int), .int .i64 (line : Int), .int .i64 n, .slice ca cl cc].toArray 30)) (F.trim w) := ⟨F.trim_ext w, (Dstep.below hB0 : Dstep w F 0 _ F).only⟩
  have hbx := hE.lt
  replace hpost := Lib.hid hpost
  replace hval := Lib.hid hval
  generalize F.trim w = G at *
  obtain ⟨w0, hw0⟩ : ∃ w0, w0 = w.alloc (.cells [.int .u8 1, .int .i64 (t : Int), .int .u64 (off : Int), .int .u64 (val : Int), .int .u64 (old : Int), .int .i64 (line : Int), .int .i64 n, .slice ca cl cc].toArray 30) := ⟨_, rfl⟩
  rw [← hw0] at hE hB0 hD0 hval hS0 hbx
  replace hw0 := Lib.hid hw0
  clear h h1
  go_enter Try.func10, Try.ntmps10
  go_wp2_with fail
  rw [show w.alloc (.cells #[.int .u8 1, .int .i64 (t : Int), .int .u64 (off : Int), .int .u64 (val : Int), .int .u64 (old : Int), .int .i64 (line : Int), .int .i64 n, .slice ca cl cc] 30) = w0 from hw0.out.symm]
  have hf1 : ∀ (hx : Below w0.heap.size w0 w0), True := fun _ => trivial
  clear hf1
  go_wp2_with fail
  refine hval.out.mono ?_
  rintro e w1 ⟨rfl, hB1⟩
  have hD1 := hD0.below hB1
  have hE1 := hE.only (Only.of_below hB1) (Nat.not_le.2 hE.lt)
  have hS1 : Dstep w F 0 w1 G := hS0.trans (Dstep.below hB1)
  have e0 := hE1.cell (o := 0) rfl
  have e1 := hE1.cell (o := 1) rfl
  have e2 := hE1.cell (o := 2) rfl
  have e3 := hE1.cell (o := 3) rfl
  have e4 := hE1.cell (o := 4) rfl
  have e5 := hE1.cell (o := 5) rfl
  have e6 := hE1.cell (o := 6) rfl
  have hth := thread_in hD1 ht
  replace hth := Lib.hid hth
  clear hval hD0 hB0 hS0 hw0
  go_wp2_with fail
  refine hth.out.mono ?_
  rintro e w' ⟨rfl, rfl⟩
  have hgo := Dev.store_any hD1 (by omega) ht ho hvl
  replace hgo := Lib.hid hgo
  go_wp2_with fail
  refine hgo.out.mono ?_
  rintro e w2 ⟨F2, rfl, hD2, hs2⟩
  have hS2 : Dstep w F 0 w2 F2 := hS1.trans hs2
  have hE2 := hE1.only hs2.only (fun ⟨r, s⟩ => by rw [hF0] at s; cases s)
  have e2' := hE2.cell (o := 2) rfl
  have hoff := off_any hD2
  rw [hof] at hoff
  replace hoff := Lib.hid hoff
  have hwd := sword_any hD2 off ho
  have hfinG := Lib.hid (show post (.returned (.tuple #[.pointer (some ⟨L.g, 0, none⟩), .bool (false), .int .i64 0])) w2 by rw [← hpost.out]; exact ⟨F2, false, 0, rfl, by decide, hD2, hS2⟩)
  have hfinB := Lib.hid (show post (.returned (.tuple #[.pointer (some ⟨L.g, 0, none⟩), .bool false, .int .i64 2])) w2 by rw [← hpost.out]; exact ⟨F2, false, 2, rfl, by decide, hD2, hS2⟩)

  generalize (Dv.isB _ off) = vb at *
  replace hwd := Lib.hid hwd
  clear hgo hth hD1 hE hE1 hE2 hS1 hS2 hs2 hD2
  go_wp2_with fail
  refine hwd.out.mono ?_
  rintro e w' ⟨rfl, rfl⟩
  go_wp2_with fail
  refine hoff.out.mono ?_
  rintro e w' ⟨rfl, rfl⟩
  cases vb
  · go_wp2_with fail
    exact bodyPost_ret (v := .tuple #[.pointer (some ⟨L.g, 0, none⟩), .bool false, .int .i64 2]) (by simp [results, Try.results10, go_sem]) rfl hfinB.out
  · go_wp2_with fail
    exact bodyPost_ret (v := .tuple #[.pointer (some ⟨L.g, 0, none⟩), .bool false, .int .i64 0]) (by simp [results, Try.results10, go_sem]) rfl hfinG.out

set_option maxHeartbeats 2000000 in
set_option maxRecDepth 100000 in
theorem step2 (h : DevSt w F 0 L T R) (hT : T + 2 ≤ 100000) (t off val old line : Nat) (n : Int) (ca : Option Addr) (cl cc : Nat) (ht : t < 8) (ho : off < 18446744073709551616) (hvl : val < 18446744073709551616)
    (hv : validP 2 t off val old line n cl = true) (hof : (Dev.casP R t off old val).off = false) :
    Calls Try.prog 10 #[.pointer (some ⟨L.g, 0, none⟩), .agg #[.int .u8 2, .int .i64 (t : Int), .int .u64 (off : Int), .int .u64 (val : Int), .int .u64 (old : Int), .int .i64 (line : Int), .int .i64 n, .slice ca cl cc]] w (StepPost w F L (T + 2) (Dev.casP R t off old val)) := by
  generalize hpost : StepPost w F L (T + 2) (Dev.casP R t off old val) = post
  have h1 : DevSt w (F.trim w) 0 L T R := h.trim
  have hF0 : (F.trim w) w.heap.size = none := F.trim_new w (Nat.le_refl _)
  have hE := Has.new w [.int .u8 2, .int .i64 (t : Int), .int .u64 (off : Int), .int .u64 (val : Int), .int .u64 (old : Int), .int .i64 (line : Int), .int .i64 n, .slice ca cl cc] 30
  have hB0 : Below w.heap.size w (w.alloc (.cells [.int .u8 2, .int .i64 (t : Int), .int .u64 (off : Int), .int .u64 (val : Int), .int .u64 (old : Int), .int .i64 (line : Int), .int .i64 n, .slice ca cl cc].toArray 30)) := (Below.refl _ _).alloc (Nat.le_refl _) _
  have hD0 := h1.below hB0
  have hval := valid_any 2 t off val old line n ca cl cc (w.alloc (.cells [.int .u8 2, .int .i64 (t : Int), .int .u64 (off : Int), .int .u64 (val : Int), .int .u64 (old : Int), .int .i64 (line : Int), .int .i64 n, .slice ca cl cc].toArray 30))
  rw [hv] at hval
  have hS0 : Dstep w F 0 (w.alloc (.cells [.int .u8 2, .int .i64 (t : Int), .int .u64 (off : Int), .int .u64 (val : Int), .int .u64 (old : Int), .int .i64 (line : Int), .int .i64 n, .slice ca cl cc].toArray 30)) (F.trim w) := ⟨F.trim_ext w, (Dstep.below hB0 : Dstep w F 0 _ F).only⟩
  have hbx := hE.lt
  replace hpost := Lib.hid hpost
  replace hval := Lib.hid hval
  generalize F.trim w = G at *
  obtain ⟨w0, hw0⟩ : ∃ w0, w0 = w.alloc (.cells [.int .u8 2, .int .i64 (t : Int), .int .u64 (off : Int), .int .u64 (val : Int), .int .u64 (old : Int), .int .i64 (line : Int), .int .i64 n, .slice ca cl cc].toArray 30) := ⟨_, rfl⟩
  rw [← hw0] at hE hB0 hD0 hval hS0 hbx
  replace hw0 := Lib.hid hw0
  clear h h1
  go_enter Try.func10, Try.ntmps10
  go_wp2_with fail
  rw [show w.alloc (.cells #[.int .u8 2, .int .i64 (t : Int), .int .u64 (off : Int), .int .u64 (val : Int), .int .u64 (old : Int), .int .i64 (line : Int), .int .i64 n, .slice ca cl cc] 30) = w0 from hw0.out.symm]
  have hf1 : ∀ (hx : Below w0.heap.size w0 w0), True := fun _ => trivial
  clear hf1
  go_wp2_with fail
  refine hval.out.mono ?_
  rintro e w1 ⟨rfl, hB1⟩
  have hD1 := hD0.below hB1
  have hE1 := hE.only (Only.of_below hB1) (Nat.not_le.2 hE.lt)
  have hS1 : Dstep w F 0 w1 G := hS0.trans (Dstep.below hB1)
  have e0 := hE1.cell (o := 0) rfl
  have e1 := hE1.cell (o := 1) rfl
  have e2 := hE1.cell (o := 2) rfl
  have e3 := hE1.cell (o := 3) rfl
  have e4 := hE1.cell (o := 4) rfl
  have e5 := hE1.cell (o := 5) rfl
  have e6 := hE1.cell (o := 6) rfl
  have hth := thread_in hD1 ht
  replace hth := Lib.hid hth
  clear hval hD0 hB0 hS0 hw0
  go_wp2_with fail
  refine hth.out.mono ?_
  rintro e w' ⟨rfl, rfl⟩
  have hgo := Dev.cas_any (old := old) hD1 (by omega) ht ho hvl
  replace hgo := Lib.hid hgo
  go_wp2_with fail
  refine hgo.out.mono ?_
  rintro e w2 ⟨F2, rfl, hD2, hs2⟩
  have hS2 : Dstep w F 0 w2 F2 := hS1.trans hs2
  have hE2 := hE1.only hs2.only (fun ⟨r, s⟩ => by rw [hF0] at s; cases s)
  have e2' := hE2.cell (o := 2) rfl
  have hoff := off_any hD2
  rw [hof] at hoff
  replace hoff := Lib.hid hoff
  have hwd := sword_any hD2 off ho
  have hfinG := Lib.hid (show post (.returned (.tuple #[.pointer (some ⟨L.g, 0, none⟩), .bool (casB R off old), .int .i64 0])) w2 by rw [← hpost.out]; exact ⟨F2, casB R off old, 0, rfl, by decide, hD2, hS2⟩)
  have hfinB := Lib.hid (show post (.returned (.tuple #[.pointer (some ⟨L.g, 0, none⟩), .bool false, .int .i64 2])) w2 by rw [← hpost.out]; exact ⟨F2, false, 2, rfl, by decide, hD2, hS2⟩)
  generalize casB R off old = dn at *
  generalize (Dv.isB _ off) = vb at *
  replace hwd := Lib.hid hwd
  clear hgo hth hD1 hE hE1 hE2 hS1 hS2 hs2 hD2
  go_wp2_with fail
  refine hwd.out.mono ?_
  rintro e w' ⟨rfl, rfl⟩
  go_wp2_with fail
  refine hoff.out.mono ?_
  rintro e w' ⟨rfl, rfl⟩
  cases vb
  · go_wp2_with fail
    exact bodyPost_ret (v := .tuple #[.pointer (some ⟨L.g, 0, none⟩), .bool false, .int .i64 2]) (by simp [results, Try.results10, go_sem]) rfl hfinB.out
  · go_wp2_with fail
    exact bodyPost_ret (v := .tuple #[.pointer (some ⟨L.g, 0, none⟩), .bool dn, .int .i64 0]) (by simp [results, Try.results10, go_sem]) rfl hfinG.out

set_option maxHeartbeats 2000000 in
set_option maxRecDepth 100000 in
theorem step3 (h : DevSt w F 0 L T R) (hT : T + 2 ≤ 100000) (t off val old line : Nat) (n : Int) (ca : Option Addr) (cl cc : Nat) (ht : t < 8) (ho : off < 18446744073709551616) (hvl : val < 18446744073709551616)
    (hv : validP 3 t off val old line n cl = true) (hof : (Dev.flushP R t off).off = false) :
    Calls Try.prog 10 #[.pointer (some ⟨L.g, 0, none⟩), .agg #[.int .u8 3, .int .i64 (t : Int), .int .u64 (off : Int), .int .u64 (val : Int), .int .u64 (old : Int), .int .i64 (line : Int), .int .i64 n, .slice ca cl cc]] w (StepPost w F L (T + 2) (Dev.flushP R t off)) := by
  generalize hpost : StepPost w F L (T + 2) (Dev.flushP R t off) = post
  have h1 : DevSt w (F.trim w) 0 L T R := h.trim
  have hF0 : (F.trim w) w.heap.size = none := F.trim_new w (Nat.le_refl _)
  have hE := Has.new w [.int .u8 3, .int .i64 (t : Int), .int .u64 (off : Int), .int .u64 (val : Int), .int .u64 (old : Int), .int .i64 (line : Int), .int .i64 n, .slice ca cl cc] 30
  have hB0 : Below w.heap.size w (w.alloc (.cells [.int .u8 3, .int .i64 (t : Int), .int .u64 (off : Int), .int .u64 (val : Int), .int .u64 (old : Int), .int .i64 (line : Int), .int .i64 n, .slice ca cl cc].toArray 30)) := (Below.refl _ _).alloc (Nat.le_refl _) _
  have hD0 := h1.below hB0
  have hval := valid_any 3 t off val old line n ca cl cc (w.alloc (.cells [.int .u8 3, .int .i64 (t : Int), .int .u64 (off : Int), .int .u64 (val : Int), .int .u64 (old : Int), .int .i64 (line : Int), .int .i64 n, .slice ca cl cc].toArray 30))
  rw [hv] at hval
  have hS0 : Dstep w F 0 (w.alloc (.cells [.int .u8 3, .int .i64 (t : Int), .int .u64 (off : Int), .int .u64 (val : Int), .int .u64 (old : Int), .int .i64 (line : Int), .int .i64 n, .slice ca cl cc].toArray 30)) (F.trim w) := ⟨F.trim_ext w, (Dstep.below hB0 : Dstep w F 0 _ F).only⟩
  have hbx := hE.lt
  replace hpost := Lib.hid hpost
  replace hval := Lib.hid hval
  generalize F.trim w = G at *
  obtain ⟨w0, hw0⟩ : ∃ w0, w0 = w.alloc (.cells [.int .u8 3, .int .i64 (t : Int), .int .u64 (off : Int), .int .u64 (val : Int), .int .u64 (old : Int), .int .i64 (line : Int), .int .i64 n, .slice ca cl cc].toArray 30) := ⟨_, rfl⟩
  rw [← hw0] at hE hB0 hD0 hval hS0 hbx
  replace hw0 := Lib.hid hw0
  clear h h1
  go_enter Try.func10, Try.ntmps10
  go_wp2_with fail
  rw [show w.alloc (.cells #[.int .u8 3, .int .i64 (t : Int), .int .u64 (off : Int), .int .u64 (val : Int), .int .u64 (old : Int), .int .i64 (line : Int), .int .i64 n, .slice ca cl cc] 30) = w0 from hw0.out.symm]
  have hf1 : ∀ (hx : Below w0.heap.size w0 w0), True := fun _ => trivial
  clear hf1
  go_wp2_with fail
  refine hval.out.mono ?_
  rintro e w1 ⟨rfl, hB1⟩
  have hD1 := hD0.below hB1
  have hE1 := hE.only (Only.of_below hB1) (Nat.not_le.2 hE.lt)
  have hS1 : Dstep w F 0 w1 G := hS0.trans (Dstep.below hB1)
  have e0 := hE1.cell (o := 0) rfl
  have e1 := hE1.cell (o := 1) rfl
  have e2 := hE1.cell (o := 2) rfl
  have e3 := hE1.cell (o := 3) rfl
  have e4 := hE1.cell (o := 4) rfl
  have e5 := hE1.cell (o := 5) rfl
  have e6 := hE1.cell (o := 6) rfl
  have hth := thread_in hD1 ht
  replace hth := Lib.hid hth
  clear hval hD0 hB0 hS0 hw0
  go_wp2_with fail
  refine hth.out.mono ?_
  rintro e w' ⟨rfl, rfl⟩
  have hgo := Dev.flush_any hD1 (by omega) ht ho
  replace hgo := Lib.hid hgo
  go_wp2_with fail
  refine hgo.out.mono ?_
  rintro e w2 ⟨F2, rfl, hD2, hs2⟩
  have hS2 : Dstep w F 0 w2 F2 := hS1.trans hs2
  have hE2 := hE1.only hs2.only (fun ⟨r, s⟩ => by rw [hF0] at s; cases s)
  have e2' := hE2.cell (o := 2) rfl
  have hoff := off_any hD2
  rw [hof] at hoff
  replace hoff := Lib.hid hoff
  have hsz := size_any hD2
  have hn2 := hD2.ok.n2
  have hqs := Lib.hid (fun d => Calls.quiet_of_same ((size_any (hD2.drewN d)).mono (fun e w' h => ⟨h.1, h.2.symm⟩)))
  have hfinG := fun d => Lib.hid (show post (.returned (.tuple #[.pointer (some ⟨L.g, 0, none⟩), .bool false, .int .i64 0])) (w2.drewN d) by rw [← hpost.out]; exact ⟨F2, false, 0, rfl, by decide, hD2.drewN d, hS2.drewN d⟩)
  have hfinB := fun d => Lib.hid (show post (.returned (.tuple #[.pointer (some ⟨L.g, 0, none⟩), .bool false, .int .i64 2])) (w2.drewN d) by rw [← hpost.out]; exact ⟨F2, false, 2, rfl, by decide, hD2.drewN d, hS2.drewN d⟩)
  have hoffd := fun d => off_any (hD2.drewN d)
  rw [hof] at hoffd
  replace hoffd := Lib.hid hoffd
  clear hoff hgo hth hD1 hE hE1 hE2 hS1 hS2 hs2 hD2 hsz
  generalize (Dev.flushP R t off).lines.length = N at *
  by_cases hlt : (off : Int) < (N : Int) * 64
  · have hlb : decide ((off : Int) < (N : Int) * 64) = true := decide_eq_true hlt
    go_wp2_with fail
    go_quiet ((go_at_call 47; exact hqs.out _))
    go_wp2_with fail
    refine (hoffd.out _).mono ?_
    rintro e w' ⟨rfl, rfl⟩
    go_wp2_with fail
    exact bodyPost_ret (v := .tuple #[.pointer (some ⟨L.g, 0, none⟩), .bool false, .int .i64 0]) (by simp [results, Try.results10, go_sem]) rfl (hfinG _).out
  · have hlb : decide ((off : Int) < (N : Int) * 64) = false := decide_eq_false hlt
    go_wp2_with fail
    go_quiet ((go_at_call 47; exact hqs.out _))
    go_wp2_with fail
    refine (hoffd.out _).mono ?_
    rintro e w' ⟨rfl, rfl⟩
    go_wp2_with fail
    exact bodyPost_ret (v := .tuple #[.pointer (some ⟨L.g, 0, none⟩), .bool false, .int .i64 2]) (by simp [results, Try.results10, go_sem]) rfl (hfinB _).out

set_option maxHeartbeats 2000000 in
set_option maxRecDepth 100000 in
theorem step4 (h : DevSt w F 0 L T R) (hT : T + 2 ≤ 100000) (t off val old line : Nat) (n : Int) (ca : Option Addr) (cl cc : Nat) (ht : t < 8) (ho : off < 18446744073709551616) (hvl : val < 18446744073709551616)
    (hv : validP 4 t off val old line n cl = true) (hof : (Dev.fenceP R t).off = false) :
    Calls Try.prog 10 #[.pointer (some ⟨L.g, 0, none⟩), .agg #[.int .u8 4, .int .i64 (t : Int), .int .u64 (off : Int), .int .u64 (val : Int), .int .u64 (old : Int), .int .i64 (line : Int), .int .i64 n, .slice ca cl cc]] w (StepPost w F L (T + 2) (Dev.fenceP R t)) := by
  generalize hpost : StepPost w F L (T + 2) (Dev.fenceP R t) = post
  have h1 : DevSt w (F.trim w) 0 L T R := h.trim
  have hF0 : (F.trim w) w.heap.size = none := F.trim_new w (Nat.le_refl _)
  have hE := Has.new w [.int .u8 4, .int .i64 (t : Int), .int .u64 (off : Int), .int .u64 (val : Int), .int .u64 (old : Int), .int .i64 (line : Int), .int .i64 n, .slice ca cl cc] 30
  have hB0 : Below w.heap.size w (w.alloc (.cells [.int .u8 4, .int .i64 (t : Int), .int .u64 (off : Int), .int .u64 (val : Int), .int .u64 (old : Int), .int .i64 (line : Int), .int .i64 n, .slice ca cl cc].toArray 30)) := (Below.refl _ _).alloc (Nat.le_refl _) _
  have hD0 := h1.below hB0
  have hval := valid_any 4 t off val old line n ca cl cc (w.alloc (.cells [.int .u8 4, .int .i64 (t : Int), .int .u64 (off : Int), .int .u64 (val : Int), .int .u64 (old : Int), .int .i64 (line : Int), .int .i64 n, .slice ca cl cc].toArray 30))
  rw [hv] at hval
  have hS0 : Dstep w F 0 (w.alloc (.cells [.int .u8 4, .int .i64 (t : Int), .int .u64 (off : Int), .int .u64 (val : Int), .int .u64 (old : Int), .int .i64 (line : Int), .int .i64 n, .slice ca cl cc].toArray 30)) (F.trim w) := ⟨F.trim_ext w, (Dstep.below hB0 : Dstep w F 0 _ F).only⟩
  have hbx := hE.lt
  replace hpost := Lib.hid hpost
  replace hval := Lib.hid hval
  generalize F.trim w = G at *
  obtain ⟨w0, hw0⟩ : ∃ w0, w0 = w.alloc (.cells [.int .u8 4, .int .i64 (t : Int), .int .u64 (off : Int), .int .u64 (val : Int), .int .u64 (old : Int), .int .i64 (line : Int), .int .i64 n, .slice ca cl cc].toArray 30) := ⟨_, rfl⟩
  rw [← hw0] at hE hB0 hD0 hval hS0 hbx
  replace hw0 := Lib.hid hw0
  clear h h1
  go_enter Try.func10, Try.ntmps10
  go_wp2_with fail
  rw [show w.alloc (.cells #[.int .u8 4, .int .i64 (t : Int), .int .u64 (off : Int), .int .u64 (val : Int), .int .u64 (old : Int), .int .i64 (line : Int), .int .i64 n, .slice ca cl cc] 30) = w0 from hw0.out.symm]
  have hf1 : ∀ (hx : Below w0.heap.size w0 w0), True := fun _ => trivial
  clear hf1
  go_wp2_with fail
  refine hval.out.mono ?_
  rintro e w1 ⟨rfl, hB1⟩
  have hD1 := hD0.below hB1
  have hE1 := hE.only (Only.of_below hB1) (Nat.not_le.2 hE.lt)
  have hS1 : Dstep w F 0 w1 G := hS0.trans (Dstep.below hB1)
  have e0 := hE1.cell (o := 0) rfl
  have e1 := hE1.cell (o := 1) rfl
  have e2 := hE1.cell (o := 2) rfl
  have e3 := hE1.cell (o := 3) rfl
  have e4 := hE1.cell (o := 4) rfl
  have e5 := hE1.cell (o := 5) rfl
  have e6 := hE1.cell (o := 6) rfl
  have hth := thread_in hD1 ht
  replace hth := Lib.hid hth
  clear hval hD0 hB0 hS0 hw0
  go_wp2_with fail
  refine hth.out.mono ?_
  rintro e w' ⟨rfl, rfl⟩
  have hgo := Dev.fence_any hD1 (by omega) ht
  replace hgo := Lib.hid hgo
  go_wp2_with fail
  refine hgo.out.mono ?_
  rintro e w2 ⟨F2, rfl, hD2, hs2⟩
  have hS2 : Dstep w F 0 w2 F2 := hS1.trans hs2
  have hE2 := hE1.only hs2.only (fun ⟨r, s⟩ => by rw [hF0] at s; cases s)
  have e2' := hE2.cell (o := 2) rfl
  have hoff := off_any hD2
  rw [hof] at hoff
  replace hoff := Lib.hid hoff
  have hfinG := Lib.hid (show post (.returned (.tuple #[.pointer (some ⟨L.g, 0, none⟩), .bool false, .int .i64 0])) w2 by rw [← hpost.out]; exact ⟨F2, false, 0, rfl, by decide, hD2.up (by omega) (by omega), hS2⟩)
  clear hgo hth hD1 hE hE1 hE2 hS1 hS2 hs2 hD2
  go_wp2_with fail
  refine hoff.out.mono ?_
  rintro e w' ⟨rfl, rfl⟩
  go_wp2_with fail
  exact bodyPost_ret (v := .tuple #[.pointer (some ⟨L.g, 0, none⟩), .bool false, .int .i64 0]) (by simp [results, Try.results10, go_sem]) rfl hfinG.out

set_option maxHeartbeats 2000000 in
set_option maxRecDepth 100000 in
theorem step5 (h : DevSt w F 0 L T R) (hT : T + 2 ≤ 100000) (t off val old line : Nat) (n : Int) (ca : Option Addr) (cl cc : Nat) (ht : t < 8) (ho : off < 18446744073709551616) (hvl : val < 18446744073709551616)
    (hv : validP 5 t off val old line n cl = true) (hof : (Dev.backP R (line : Int) n).off = false) :
    Calls Try.prog 10 #[.pointer (some ⟨L.g, 0, none⟩), .agg #[.int .u8 5, .int .i64 (t : Int), .int .u64 (off : Int), .int .u64 (val : Int), .int .u64 (old : Int), .int .i64 (line : Int), .int .i64 n, .slice ca cl cc]] w (StepPost w F L (T + 2) (Dev.backP R (line : Int) n)) := by
  generalize hpost : StepPost w F L (T + 2) (Dev.backP R (line : Int) n) = post
  have h1 : DevSt w (F.trim w) 0 L T R := h.trim
  have hF0 : (F.trim w) w.heap.size = none := F.trim_new w (Nat.le_refl _)
  have hE := Has.new w [.int .u8 5, .int .i64 (t : Int), .int .u64 (off : Int), .int .u64 (val : Int), .int .u64 (old : Int), .int .i64 (line : Int), .int .i64 n, .slice ca cl cc] 30
  have hB0 : Below w.heap.size w (w.alloc (.cells [.int .u8 5, .int .i64 (t : Int), .int .u64 (off : Int), .int .u64 (val : Int), .int .u64 (old : Int), .int .i64 (line : Int), .int .i64 n, .slice ca cl cc].toArray 30)) := (Below.refl _ _).alloc (Nat.le_refl _) _
  have hD0 := h1.below hB0
  have hval := valid_any 5 t off val old line n ca cl cc (w.alloc (.cells [.int .u8 5, .int .i64 (t : Int), .int .u64 (off : Int), .int .u64 (val : Int), .int .u64 (old : Int), .int .i64 (line : Int), .int .i64 n, .slice ca cl cc].toArray 30))
  rw [hv] at hval
  have hS0 : Dstep w F 0 (w.alloc (.cells [.int .u8 5, .int .i64 (t : Int), .int .u64 (off : Int), .int .u64 (val : Int), .int .u64 (old : Int), .int .i64 (line : Int), .int .i64 n, .slice ca cl cc].toArray 30)) (F.trim w) := ⟨F.trim_ext w, (Dstep.below hB0 : Dstep w F 0 _ F).only⟩
  have hbx := hE.lt
  replace hpost := Lib.hid hpost
  replace hval := Lib.hid hval
  generalize F.trim w = G at *
  obtain ⟨w0, hw0⟩ : ∃ w0, w0 = w.alloc (.cells [.int .u8 5, .int .i64 (t : Int), .int .u64 (off : Int), .int .u64 (val : Int), .int .u64 (old : Int), .int .i64 (line : Int), .int .i64 n, .slice ca cl cc].toArray 30) := ⟨_, rfl⟩
  rw [← hw0] at hE hB0 hD0 hval hS0 hbx
  replace hw0 := Lib.hid hw0
  clear h h1
  go_enter Try.func10, Try.ntmps10
  go_wp2_with fail
  rw [show w.alloc (.cells #[.int .u8 5, .int .i64 (t : Int), .int .u64 (off : Int), .int .u64 (val : Int), .int .u64 (old : Int), .int .i64 (line : Int), .int .i64 n, .slice ca cl cc] 30) = w0 from hw0.out.symm]
  have hf1 : ∀ (hx : Below w0.heap.size w0 w0), True := fun _ => trivial
  clear hf1
  go_wp2_with fail
  refine hval.out.mono ?_
  rintro e w1 ⟨rfl, hB1⟩
  have hD1 := hD0.below hB1
  have hE1 := hE.only (Only.of_below hB1) (Nat.not_le.2 hE.lt)
  have hS1 : Dstep w F 0 w1 G := hS0.trans (Dstep.below hB1)
  have e0 := hE1.cell (o := 0) rfl
  have e1 := hE1.cell (o := 1) rfl
  have e2 := hE1.cell (o := 2) rfl
  have e3 := hE1.cell (o := 3) rfl
  have e4 := hE1.cell (o := 4) rfl
  have e5 := hE1.cell (o := 5) rfl
  have e6 := hE1.cell (o := 6) rfl
  have hth := thread_in hD1 ht
  replace hth := Lib.hid hth
  clear hval hD0 hB0 hS0 hw0
  go_wp2_with fail
  refine hth.out.mono ?_
  rintro e w' ⟨rfl, rfl⟩
  have hgo := Dev.back_any hD1 (line : Int) n
  replace hgo := Lib.hid hgo
  go_wp2_with fail
  refine hgo.out.mono ?_
  rintro e w2 ⟨F2, rfl, hD2, hs2⟩
  have hS2 : Dstep w F 0 w2 F2 := hS1.trans hs2
  have hfinG := Lib.hid (show post (.returned (.tuple #[.pointer (some ⟨L.g, 0, none⟩), .bool (backB R (line : Int) n), .int .i64 0])) w2 by rw [← hpost.out]; exact ⟨F2, _, 0, rfl, by decide, hD2.up (by omega) (by omega), hS2⟩)
  clear hgo hth hD1 hE hE1 hS1 hS2 hs2 hD2
  go_wp2_with fail
  exact bodyPost_ret (v := .tuple #[.pointer (some ⟨L.g, 0, none⟩), .bool (backB R (line : Int) n), .int .i64 0]) (by simp [results, Try.results10, go_sem]) rfl hfinG.out
end Go.Proofs.Ytjmdibgncaljaaa

namespace Go.Proofs.Ytjmdibgncaljaaa
open Go.RowKit Dev
variable {w : World} {F : Dev.Own} {T : Nat} {L : Lay} {R : Dv}
theorem step_any (h : DevSt w F 0 L T R) (hT : T + 2 ≤ 100000) (e : Ev) (he : e.Good) (hof : (devE R e).off = false) :
    Calls Try.prog 10 #[.pointer (some ⟨L.g, 0, none⟩), .agg #[.int .u8 (e.k : Int), .int .i64 (e.t : Int), .int .u64 (e.off : Int), .int .u64 (e.val : Int), .int .u64 (e.old : Int), .int .i64 (e.line : Int), .int .i64 e.n, e.ch]] w (StepPost w F L (T + 2) (devE R e)) := by
  obtain ⟨ca, cl, cc, hch, hvp⟩ := he.ch
  have hfit := he.fit
  obtain ⟨k, t, off, val, old, line, n, ch⟩ := e
  simp only at hch hvp
  subst hch
  have hk := hfit.k
  have ht := hfit.t
  have ho := hfit.off
  have hv := hfit.val
  simp only at hk ht ho hv
  have h5 : k = 1 ∨ k = 2 ∨ k = 3 ∨ k = 4 ∨ k = 5 := by omega
  rcases h5 with rfl | rfl | rfl | rfl | rfl
  · exact step1 h hT t off val old line n ca cl cc ht ho hv hvp hof
  · exact step2 h hT t off val old line n ca cl cc ht ho hv hvp hof
  · exact step3 h hT t off val old line n ca cl cc ht ho hv hvp hof
  · exact step4 h hT t off val old line n ca cl cc ht ho hv hvp hof
  · exact step5 h hT t off val old line n ca cl cc ht ho hv hvp hof

/-- The device behind a script. -/
def devRun (n : Nat) (es : List Ev) : Dv := es.foldl devE (newP n)
theorem devRun_snoc (n : Nat) (es : List Ev) (e : Ev) : devRun n (es ++ [e]) = devE (devRun n es) e := by unfold devRun; rw [List.foldl_append]; rfl
theorem pair_snoc {n : Nat} (h1 : 1 ≤ n) (h2 : n ≤ 4096) {es : List Ev} {e : Ev} (hl : es.length + 1 ≤ 20000) (hg : ∀ x ∈ es, x.Fit) (he : e.Fit) (hp : Pair (devRun n es) (runP n es)) {T : Nat} (ok : (devRun n es).Ok T) (hT : T + 1 ≤ 100000) :
    Pair (devE (devRun n es) e) (runP n (es ++ [e])) := by
  rw [runP_snoc]
  exact hp.step ok hT (runP_ok n h1 h2 es (by omega) hg) he
end Go.Proofs.Ytjmdibgncaljaaa
