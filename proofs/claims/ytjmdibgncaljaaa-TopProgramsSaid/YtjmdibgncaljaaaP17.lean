/- Programs (plain): the device and the graph behind a program; what dLines counts. -/
import Derived.Test.YtjmdibgncaljaaaP16
import Derived.Test.YtjmdibgncaljaaaT1
namespace Go.Proofs.Ytjmdibgncaljaaa
def evI (x : In) : Ev := ⟨if x.k = 1 then 1 else if x.k = 2 then 3 else 4, 0, x.off, x.v, 0, 0, 0, .bool false⟩
theorem evI_fit {x : In} (h : x.Fit) : (evI x).Fit := by
  have h1 := h.off
  have h2 := h.v
  have hk : 1 ≤ (evI x).k ∧ (evI x).k ≤ 4 := by
    unfold evI
    simp only
    by_cases h1 : x.k = 1
    · rw [if_pos h1]; omega
    rw [if_neg h1]
    by_cases h2 : x.k = 2
    · rw [if_pos h2]; omega
    · rw [if_neg h2]; omega
  exact ⟨⟨hk.1, by omega⟩, by show 0 < 8; omega, by show x.off < _; omega, h2, by show 0 < _; decide, by show 0 < _; decide, fun h => by omega, by show (-1 : Int) ≤ 0 ∧ (0 : Int) ≤ _; decide⟩
theorem devE_evI (R : Dev.Dv) {x : In} (h : x.Fit) : devE R (evI x) = devI R x := by
  have hk := h.k
  unfold devE devI evI
  simp only
  by_cases h1 : x.k = 1
  · simp [h1]
  by_cases h2 : x.k = 2
  · simp [h2]
  · simp [h1, h2]
structure PI (S : Rn) (s : LSt) : Prop where
  ws : ∀ l, lws S.G.ws l = s.st l
  md : ∀ l, l < 4 → S.G.md.getD l 0 = s.le l
  no : ∀ l, (S.note 0 l).getD 0 = s.no l
theorem PI.init : PI (initR 4) lst0 := ⟨fun l => rfl, fun l hl => by
  have h4 : l = 0 ∨ l = 1 ∨ l = 2 ∨ l = 3 := by omega
  rcases h4 with rfl | rfl | rfl | rfl <;> rfl, fun l => rfl⟩
theorem PI.step {S : Rn} {s : LSt} (h : PI S s) (hn : S.G.n = 4) (hc : ∀ l, l < 4 → (lws S.G.ws l).length = S.G.ct.getD l 0) {x : In} (hx : x.Fit) : PI (execP S (evI x)) (lstep s x) := by
  have hk := hx.k
  have ho := hx.off
  have ha := hx.al
  by_cases h1 : x.k = 1
  · have e1 : execP S (evI x) = storeP S x.off x.v := by
      unfold execP evI
      simp only [h1, if_true]
      rw [if_pos (by rw [hn]; exact ⟨by omega, ha⟩)]
    have e2 : lstep s x = s.store (x.off / 64) x.off x.v := by unfold lstep; rw [if_pos h1]
    rw [e1, e2]
    refine ⟨fun l => ?_, h.md, h.no⟩
    show lws (S.G.ws ++ [(x.off, x.v)]) l = upd s.st (x.off / 64) (s.st (x.off / 64) ++ [(x.off, x.v)]) l
    rw [lws_snoc, h.ws]
    unfold upd
    by_cases e : l = x.off / 64
    · subst e; simp
    · rw [if_neg (fun h => e h.symm), if_neg e]
  by_cases h2 : x.k = 2
  · have e1 : execP S (evI x) = noteP S 0 (x.off / 64) (S.G.ct.getD (x.off / 64) 0) := by
      unfold execP evI
      simp only [h2]
      simp only [show ¬ (2 = 1) by decide, if_false, if_true, show ¬ (3 = 1) by decide, show ¬ (3 = 2) by decide]
      rw [if_pos (by rw [hn]; omega)]
    have e2 : lstep s x = s.flush (x.off / 64) := by unfold lstep; rw [if_neg h1, if_pos h2]
    rw [e1, e2]
    refine ⟨h.ws, h.md, fun l => ?_⟩
    show (if 0 = 0 ∧ l = x.off / 64 then some (S.G.ct.getD (x.off / 64) 0) else S.note 0 l).getD 0 = upd s.no (x.off / 64) (s.st (x.off / 64)).length l
    unfold upd
    by_cases e : l = x.off / 64
    · subst e; simp [← h.ws, hc _ (show x.off / 64 < 4 by omega)]
    · rw [if_neg (fun h => e h.2), if_neg e]; exact h.no l
  · have e1 : execP S (evI x) = fenceP S 0 := by
      unfold execP evI
      simp [h1, h2]
    have e2 : lstep s x = s.fence := by unfold lstep; rw [if_neg h1, if_neg h2]
    rw [e1, e2]
    refine ⟨h.ws, fun l hl => ?_, fun l => ?_⟩
    · show (fenceL S 0).getD l 0 = max (s.le l) (s.no l)
      rw [fenceL_get S 0 l (by omega), h.md l hl, ← h.no l]
      cases S.note 0 l with
      | none => simp
      | some c => rfl
    · show ((if 0 = 0 then none else S.note 0 l) : Option Nat).getD 0 = 0
      rfl
theorem devI_err {R : Dev.Dv} {S : Rn} (h : Pair R S) (hn : S.G.n = 4) {x : In} (hx : x.Fit) : (devI R x).errs = R.errs := by
  have ho := hx.off
  have ha := hx.al
  have hb : R.isB x.off = true := by rw [h.isB, hn]; exact decide_eq_true ⟨by omega, ha⟩
  have hi : R.inB x.off = true := by rw [h.inB, hn]; exact decide_eq_true (by omega)
  have hcp : (Dev.countP R 0 true).errs = R.errs := by
    unfold Dev.countP
    rw [if_neg (by rw [h.off]; decide), if_pos rfl, if_neg (by rw [h.left]; decide)]
  unfold devI
  split
  · unfold Dev.storeP; rw [hb]; split
    · exact hcp
    · exact hcp
  split
  · unfold Dev.flushP; rw [hi]; split
    · exact hcp
    · exact hcp
  · unfold Dev.fenceP; split
    · exact hcp
    · exact hcp
theorem prog_pair (l : List In) (hf : ∀ x ∈ l, x.Fit) (hll : l.length ≤ 1000) (hK : OkTo 0 (Dev.newP 4) l l.length) : ∀ k, k ≤ l.length →
    Pair ((l.take k).foldl devI (Dev.newP 4)) (runP 4 ((l.take k).map evI)) ∧ PI (runP 4 ((l.take k).map evI)) ((l.take k).foldl lstep lst0) ∧ ((l.take k).foldl devI (Dev.newP 4)).errs = List.replicate 8 0 := by
  intro k
  induction k with
  | zero => intro _; exact ⟨Pair.init 4, PI.init, rfl⟩
  | succ k ih =>
    intro hk
    obtain ⟨h1, h2, h3⟩ := ih (by omega)
    have hx := hf _ (List.mem_of_getElem? (Dev.get_of_lt (⟨0, 0, 0⟩ : In) (show k < l.length by omega)))
    rw [take_getD l k ⟨0, 0, 0⟩ (by omega)]
    generalize l.getD k ⟨0, 0, 0⟩ = x at *
    simp only [List.foldl_append, List.map_append, List.map_cons, List.map_nil, List.foldl_cons, List.foldl_nil]
    rw [runP_snoc, ← devE_evI _ hx]
    have hn := runP_n 4 ((l.take k).map evI)
    have ok := runP_ok 4 (by omega) (by omega) ((l.take k).map evI) (by simp; omega) (fun e he => by
      obtain ⟨y, hy, rfl⟩ := List.mem_map.1 he
      exact evI_fit (hf y (List.mem_of_mem_take hy)))
    refine ⟨h1.step (hK k (by omega)) (by omega) ok (evI_fit hx), h2.step hn (fun l hl => h1.cnt l (by omega)) hx, ?_⟩
    rw [devE_evI _ hx, devI_err h1 hn hx, h3]
end Go.Proofs.Ytjmdibgncaljaaa
