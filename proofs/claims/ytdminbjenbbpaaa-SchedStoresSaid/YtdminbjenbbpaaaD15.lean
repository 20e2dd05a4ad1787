/- The program's device: bytesOf, Current, Persisted, History, Dirty. The program's device: Image. The program's device: the walk of Image. -/
import Derived.Test.YtdminbjenbbpaaaD12
import Derived.Test.YtdminbjenbbpaaaD7
/-! The program's device: bytesOf, Current, Persisted, History, Dirty. -/
namespace Go.Proofs.Ytdminbjenbbpaaa
open Go.RowKit Go.Maps
variable {w : World} {F : Own} {o T : Nat} {L : Lay} {R : Dv}

def bytesL (ws : List Nat) : List Nat := (List.range (ws.length * 8)).map fun i => ws.getD (i / 8) 0 / 2 ^ (i % 8 * 8) % 256
theorem bytesL_len (ws : List Nat) : (bytesL ws).length = ws.length * 8 := by simp [bytesL]
theorem bytesL_get (ws : List Nat) (i : Nat) (h : i < ws.length * 8) : (bytesL ws)[i]? = some (ws.getD (i / 8) 0 / 2 ^ (i % 8 * 8) % 256) := by
  unfold bytesL; rw [List.getElem?_map, List.getElem?_range h]; rfl
/-- The first k of these, and zeros behind. -/
def fillTo (bs : List Nat) (n k : Nat) : List Nat := bs.take k ++ List.replicate (n - k) 0
theorem fillTo_zero (bs : List Nat) (n : Nat) : fillTo bs n 0 = List.replicate n 0 := by simp [fillTo]
theorem fillTo_all (bs : List Nat) (n : Nat) (h : bs.length = n) : fillTo bs n n = bs := by simp [fillTo, ← h]
theorem fillTo_len (bs : List Nat) (n k : Nat) (h : bs.length = n) (hk : k ≤ n) : (fillTo bs n k).length = n := by simp [fillTo, h]; omega
theorem fillTo_set (bs : List Nat) (n k b : Nat) (h : bs.length = n) (hk : k < n) (hb : bs[k]? = some b) : (fillTo bs n k).set k b = fillTo bs n (k + 1) := by
  unfold fillTo
  have hl : (bs.take k).length = k := by rw [List.length_take]; omega
  rw [List.set_append_right _ _ (by omega), hl, Nat.sub_self, List.take_add_one, hb]
  obtain ⟨m, hm⟩ : ∃ m, n - k = m + 1 := ⟨n - k - 1, by omega⟩
  have hm2 : n - (k + 1) = m := by omega
  rw [hm, hm2, List.replicate_succ, List.set_cons_zero, Option.toList_some, List.append_assoc]; rfl
theorem u8s_set (l : List Nat) (i v : Nat) : u8s (l.set i v) = (u8s l).set i (.int .u8 (v : Int)) := by unfold u8s; rw [List.map_set]
theorem u8s_rep (n : Nat) : u8s (List.replicate n 0) = List.replicate n (.int .u8 0) := by simp [u8s]

def BytesPost (w : World) (bs : List Nat) (e : Ending) (w' : World) : Prop :=
  ∃ b, e = .returned (.slice (some ⟨b, 0, none⟩) bs.length bs.length) ∧ Has w' b (u8s bs) 5 ∧ Below w.heap.size w w' ∧ w.heap.size ≤ b
theorem Dv.Ok.cur_lt (h : R.Ok T) : ∀ x ∈ R.curW, x < 18446744073709551616 := by
  intro x hx
  unfold Dv.curW at hx
  rw [List.mem_flatMap] at hx
  obtain ⟨l, hl, hx⟩ := hx
  obtain ⟨i, _, h1⟩ := h.at hl
  exact h1.words _ x hx
theorem Dv.Ok.per_lt (h : R.Ok T) : ∀ x ∈ R.perW, x < 18446744073709551616 := by
  intro x hx
  unfold Dv.perW at hx
  rw [List.mem_flatMap] at hx
  obtain ⟨l, hl, hx⟩ := hx
  obtain ⟨i, _, h1⟩ := h.at hl
  exact h1.bv x hx
theorem history_any (h : DevSt w F o L T R) {i : Nat} (hi : i < R.lines.length) : Calls Try.prog 28 #[.pointer (some ⟨L.g, 0, none⟩), .int .i64 (i : Int)] w (ClonePost w 99 2 (R.line i).hist.length (wcells (R.line i).hist)) := by
  generalize hpost : ClonePost w 99 2 (R.line i).hist.length (wcells (R.line i).hist) = post
  have d2 := h.dev.cell (o := 2) rfl
  obtain ⟨cs, hv', hL, hcl, hlin⟩ := h.lin
  obtain ⟨x0, x1, hsub, hrole⟩ := hlin _ hi
  have l1 := hL.cell x1
  have hiI : (i : Int) < (R.lines.length : Int) := by omega
  have hi0 : (0 : Int) ≤ (i : Int) := by omega
  have hhl := (h.ok.ln i hi).hl
  have ht := h.ok.t
  have hb := Lib.hid (cloneW_any w (hv' i) (R.line i).hist hsub (by omega))
  replace hpost := Lib.hid hpost
  clear h hlin hsub hL x0 x1 hcl hrole
  generalize hv' i = v at *
  go_enter Try.func28, Try.ntmps28
  go_wp2_with fail
  refine hb.out.mono ?_
  rintro e w' ⟨a, c, rfl, hp⟩
  have hx : post (.returned (.slice a (R.line i).hist.length c)) w' := by rw [← hpost.out]; exact ⟨a, c, rfl, hp⟩
  replace hx := Lib.hid hx
  clear hp
  go_wp2_with fail
  exact hx.out
theorem history_out (h : DevSt w F o L T R) (i : Int) (hi : i < 0 ∨ (R.lines.length : Int) ≤ i) : Calls Try.prog 28 #[.pointer (some ⟨L.g, 0, none⟩), .int .i64 i] w fun e w' => e = .returned (.slice none 0 0) ∧ w = w' := by
  have d2 := h.dev.cell (o := 2) rfl
  clear h
  by_cases h0 : i < 0
  · have e1 : decide (i < 0) = true := decide_eq_true h0
    go_enter Try.func28, Try.ntmps28
    go_wp2_with fail
    go_ret
    exact ⟨rfl, rfl⟩
  · have e1 : decide (i < 0) = false := decide_eq_false h0
    have e2 : (R.lines.length : Int) ≤ i := by omega
    go_enter Try.func28, Try.ntmps28
    go_wp2_with fail
    go_ret
    exact ⟨rfl, rfl⟩

def dirtyTo (R : Dv) (k : Nat) : List Nat := (List.range k).filter fun i => decide (0 < (R.line i).hist.length)
def dirtyL (R : Dv) : List Nat := dirtyTo R R.lines.length
theorem dirtyTo_succ (R : Dv) (k : Nat) : dirtyTo R (k + 1) = if 0 < (R.line k).hist.length then dirtyTo R k ++ [k] else dirtyTo R k := by
  unfold dirtyTo
  rw [List.range_succ, List.filter_append]
  by_cases h : 0 < (R.line k).hist.length
  · simp [h]
  · simp [h]
theorem dirtyTo_len (R : Dv) (k : Nat) : (dirtyTo R k).length ≤ k := by
  unfold dirtyTo; exact Nat.le_trans (List.length_filter_le _ _) (by simp)
theorem dirtyTo_mem {R : Dv} {k i : Nat} (h : i ∈ dirtyTo R k) : i < k ∧ 0 < (R.line i).hist.length := by
  unfold dirtyTo at h; simpa using h
theorem nats_len (l : List Nat) : (nats l).length = l.length := by simp [nats]
theorem nats_snoc (l : List Nat) (n : Nat) : nats (l ++ [n]) = nats l ++ [.int .i64 (n : Int)] := by simp [nats]
def NewNats (w : World) (xs : List Nat) (e : Ending) (w' : World) : Prop :=
  ∃ a c, e = .returned (.slice a xs.length c) ∧ w'.ownsRow 0 3 1 (.slice a xs.length c) xs.length (nats xs) ∧ Below w.heap.size w w' ∧ ∀ k, Value.ownBlock (.slice a xs.length c) = some k → w.heap.size ≤ k
end Go.Proofs.Ytdminbjenbbpaaa

/-! The program's device: Image. -/
namespace Go.Proofs.Ytdminbjenbbpaaa
open Go.RowKit Go.Maps
variable {w : World} {F : Own} {o T : Nat} {L : Lay} {R : Dv}

/-! ### crash images as words -/
def crashLs (R : Dv) (kf : Nat → Nat) : List Ln := (List.range R.lines.length).map fun l => ⟨wordsL (R.line l) (kf l), [], 0⟩
def crashW (R : Dv) (kf : Nat → Nat) : List Nat := (crashLs R kf).flatMap Ln.base
theorem crashLs_len (R : Dv) (kf : Nat → Nat) : (crashLs R kf).length = R.lines.length := by simp [crashLs]
theorem crashLs_get (R : Dv) (kf : Nat → Nat) (l : Nat) (h : l < R.lines.length) : (crashLs R kf)[l]? = some ⟨wordsL (R.line l) (kf l), [], 0⟩ := by
  unfold crashLs; rw [List.getElem?_map, List.getElem?_range h]; rfl
theorem crashLs_8 (h : R.Ok T) (kf : Nat → Nat) : ∀ l ∈ crashLs R kf, (Ln.base l).length = 8 := by
  intro l hl
  unfold crashLs at hl
  simp only [List.mem_map, List.mem_range] at hl
  obtain ⟨i, hi, rfl⟩ := hl
  show (wordsL _ _).length = 8
  rw [wordsL_len]; exact (h.ln i hi).b
theorem crashW_len (h : R.Ok T) (kf : Nat → Nat) : (crashW R kf).length = R.lines.length * 8 := by
  unfold crashW; rw [flat_len _ _ (crashLs_8 h kf), crashLs_len]; omega
theorem crashW_lt (h : R.Ok T) (kf : Nat → Nat) : ∀ x ∈ crashW R kf, x < 18446744073709551616 := by
  intro x hx
  unfold crashW crashLs at hx
  simp only [List.mem_flatMap, List.mem_map, List.mem_range] at hx
  obtain ⟨l, ⟨i, hi, rfl⟩, hx⟩ := hx
  exact (h.ln i hi).words _ x hx
theorem crashW_congr (R : Dv) (kf kf' : Nat → Nat) (h : ∀ l, l < R.lines.length → wordsL (R.line l) (kf l) = wordsL (R.line l) (kf' l)) : crashW R kf = crashW R kf' := by
  unfold crashW crashLs
  congr 1
  apply List.map_congr_left
  intro l hl
  rw [h l (by simpa using hl)]
theorem crashW_zero (R : Dv) : crashW R (fun _ => 0) = R.perW := by
  unfold crashW crashLs Dv.perW
  rw [List.flatMap_def, List.flatMap_def, List.map_map]
  congr 1
  apply List.ext_getElem?
  intro i
  rcases Nat.lt_or_ge i R.lines.length with h | h
  · rw [List.getElem?_map, List.getElem?_range h, List.getElem?_map, R.line_get h]; rfl
  · rw [List.getElem?_eq_none (by simpa using h), List.getElem?_eq_none (by simpa using h)]
theorem crashW_all (R : Dv) : crashW R (fun l => (R.line l).hist.length) = R.curW := by
  unfold crashW crashLs Dv.curW
  rw [List.flatMap_def, List.flatMap_def, List.map_map]
  congr 1
  apply List.ext_getElem?
  intro i
  rcases Nat.lt_or_ge i R.lines.length with h | h
  · rw [List.getElem?_map, List.getElem?_range h, List.getElem?_map, R.line_get h]; rfl
  · rw [List.getElem?_eq_none (by simpa using h), List.getElem?_eq_none (by simpa using h)]
theorem crash_set (h : R.Ok T) (kf kf' : Nat → Nat) (n : Nat) (hn : n < R.lines.length) (he : ∀ l, l < R.lines.length → l ≠ n → wordsL (R.line l) (kf' l) = wordsL (R.line l) (kf l)) (h0 : kf n = 0) :
    crashW R kf' = ((R.line n).hist.take (kf' n)).foldl setA (crashW R kf) := by
  have e : crashLs R kf' = (crashLs R kf).set n ⟨wordsL (R.line n) (kf' n), [], 0⟩ := by
    apply List.ext_getElem?
    intro l
    by_cases hl : l < R.lines.length
    · rw [crashLs_get R kf' l hl, List.getElem?_set]
      by_cases e : n = l
      · subst e; rw [if_pos rfl, if_pos (by rw [crashLs_len]; exact hl)]
      · rw [if_neg e, crashLs_get R kf l hl, he l hl (fun h => e h.symm)]
    · rw [List.getElem?_eq_none (by rw [crashLs_len]; omega), List.getElem?_eq_none (by simp [crashLs_len]; omega)]
  have hg := crashLs_get R kf n hn
  have := persist_per (crashLs R kf) (crashLs_8 h kf) n (by rw [crashLs_len]; exact hn) ((R.line n).hist.take (kf' n)) (fun p hp => ((h.ln n hn).h p (List.mem_of_mem_take hp)).1)
    ⟨wordsL (R.line n) (kf n), [], 0⟩ (by show (wordsL _ _).length = 8; rw [wordsL_len]; exact (h.ln n hn).b) ⟨wordsL (R.line n) (kf' n), [], 0⟩ (by rw [h0]; rfl)
  unfold crashW
  rw [e, this]
  congr 1
  have e2 : (crashLs R kf).set n ⟨wordsL (R.line n) (kf n), [], 0⟩ = crashLs R kf := by
    have := set_getD_self (crashLs R kf) n ln0
    rw [getDx_of ln0 hg] at this
    exact this
  rw [e2]
/-- How many stores a choice takes of a line. -/
def chK (R : Dv) (ch : List Nat) (l : Nat) : Nat := if ch = [] then 0 else ch.getD ((dirtyTo R l).length % ch.length) 0 % ((R.line l).hist.length + 1)
def chJ (R : Dv) (ch : List Nat) (j l : Nat) : Nat := if (dirtyTo R l).length < j then chK R ch l else 0
def imageW (R : Dv) (ch : List Nat) : List Nat := crashW R (chK R ch)
theorem chK_le (R : Dv) (ch : List Nat) (l : Nat) : chK R ch l ≤ (R.line l).hist.length := by
  unfold chK
  split
  · omega
  · have := Nat.mod_lt (ch.getD ((dirtyTo R l).length % ch.length) 0) (show 0 < (R.line l).hist.length + 1 by omega); omega
theorem dirtyTo_mono {R : Dv} {a b : Nat} (h : a ≤ b) : ∃ t, dirtyTo R b = dirtyTo R a ++ t := by
  induction b with
  | zero => obtain rfl : a = 0 := by omega
            exact ⟨[], by simp⟩
  | succ b ih =>
    rcases Nat.lt_or_ge b a with h1 | h1
    · obtain rfl : a = b + 1 := by omega
      exact ⟨[], by simp⟩
    · obtain ⟨t, ht⟩ := ih h1
      rw [dirtyTo_succ, ht]
      split
      · exact ⟨t ++ [b], by rw [List.append_assoc]⟩
      · exact ⟨t, rfl⟩
/-- The place of a line among the dirty ones. -/
theorem dirty_at {R : Dv} {j n : Nat} (h : (dirtyL R)[j]? = some n) : (dirtyTo R n).length = j ∧ n < R.lines.length ∧ 0 < (R.line n).hist.length := by
  have hm := dirtyTo_mem (List.mem_of_getElem? h)
  obtain ⟨t, ht⟩ := dirtyTo_mono (R := R) (show n + 1 ≤ R.lines.length by omega)
  have hs := dirtyTo_succ R n
  rw [if_pos hm.2] at hs
  refine ⟨?_, hm⟩
  unfold dirtyL at h
  have hnd : (dirtyTo R R.lines.length).Nodup := List.nodup_range.sublist List.filter_sublist
  have h2 : (dirtyTo R R.lines.length)[(dirtyTo R n).length]? = some n := by
    rw [ht, hs, List.append_assoc, List.getElem?_append_right (Nat.le_refl _)]; simp
  have hj : j < (dirtyTo R R.lines.length).length := by
    rcases Nat.lt_or_ge j (dirtyTo R R.lines.length).length with h1 | h1
    · exact h1
    · rw [List.getElem?_eq_none h1] at h; cases h
  exact ((List.getElem?_inj hj hnd).1 (h.trans h2.symm)).symm
theorem dirty_lt {R : Dv} {l : Nat} (hl : l < R.lines.length) (hd : 0 < (R.line l).hist.length) : (dirtyTo R l).length < (dirtyL R).length := by
  obtain ⟨t, ht⟩ := dirtyTo_mono (R := R) (show l + 1 ≤ R.lines.length by omega)
  have hs := dirtyTo_succ R l
  rw [if_pos hd] at hs
  unfold dirtyL
  rw [ht, hs]; simp
theorem dirty_place {R : Dv} {l : Nat} (hl : l < R.lines.length) (hd : 0 < (R.line l).hist.length) : (dirtyL R)[(dirtyTo R l).length]? = some l := by
  obtain ⟨t, ht⟩ := dirtyTo_mono (R := R) (show l + 1 ≤ R.lines.length by omega)
  have hs := dirtyTo_succ R l
  rw [if_pos hd] at hs
  unfold dirtyL
  rw [ht, hs, List.append_assoc, List.getElem?_append_right (Nat.le_refl _)]; simp
theorem chJ_step (h : R.Ok T) (ch : List Nat) {j n : Nat} (hd : (dirtyL R)[j]? = some n) : crashW R (chJ R ch (j + 1)) = ((R.line n).hist.take (chK R ch n)).foldl setA (crashW R (chJ R ch j)) := by
  obtain ⟨h1, h2, h3⟩ := dirty_at hd
  have := crash_set h (chJ R ch j) (chJ R ch (j + 1)) n h2 ?_ ?_
  · have e : chJ R ch (j + 1) n = chK R ch n := by unfold chJ; rw [h1, if_pos (by omega)]
    rw [e] at this; exact this
  · intro l hl hne
    by_cases hc : 0 < (R.line l).hist.length
    · have : (dirtyTo R l).length ≠ j := by
        intro e
        have h4 := dirty_place hl hc
        rw [e, hd] at h4
        exact hne (Option.some.inj h4).symm
      unfold chJ
      by_cases hlt : (dirtyTo R l).length < j
      · rw [if_pos (by omega), if_pos hlt]
      · rw [if_neg (by omega), if_neg hlt]
    · have e0 : (R.line l).hist = [] := List.eq_nil_of_length_eq_zero (by omega)
      unfold wordsL; rw [e0]; simp
  · unfold chJ; rw [h1, if_neg (by omega)]
theorem chJ_zero (R : Dv) (ch : List Nat) : crashW R (chJ R ch 0) = R.perW := by
  rw [← crashW_zero]; exact crashW_congr _ _ _ (fun l _ => by unfold chJ; rw [if_neg (by omega)])
theorem chJ_all (R : Dv) (ch : List Nat) : crashW R (chJ R ch (dirtyL R).length) = imageW R ch := by
  refine crashW_congr _ _ _ (fun l hl => ?_)
  by_cases hc : 0 < (R.line l).hist.length
  · unfold chJ; rw [if_pos (dirty_lt hl hc)]
  · have e0 : (R.line l).hist = [] := List.eq_nil_of_length_eq_zero (by omega)
    unfold wordsL; rw [e0]; simp
theorem imageW_nil (R : Dv) : imageW R [] = R.perW := by
  rw [← crashW_zero]; exact crashW_congr _ _ _ (fun l _ => by unfold chK; rw [if_pos rfl])
theorem SubV.takeRd {w : World} {T : TypeId} {a : Option Addr} {c k : Nat} {ps : List (Nat × Nat)} (h : SubV w T 2 (.slice a ps.length c) ps.length (wcells ps)) (hk : k ≤ ps.length) : Rd w (.slice a k c) k (wcells (ps.take k)) := by
  obtain ⟨a', c', e1, h2⟩ := h.rd
  simp only [Value.slice.injEq, true_and] at e1
  obtain ⟨rfl, rfl⟩ := e1
  refine ⟨_, _, rfl, ?_⟩
  rcases h2 with ⟨h3, _⟩ | ⟨b', o', h3, h4⟩
  · exact .inl ⟨by omega, by rw [List.length_eq_zero_iff.1 (show (ps.take k).length = 0 by rw [List.length_take]; omega)]; rfl⟩
  · refine .inr ⟨b', o', h3, fun j u hj => h4 j u ?_⟩
    rw [← wcells_take, List.getElem?_take] at hj
    split at hj
    · exact hj
    · cases hj
end Go.Proofs.Ytdminbjenbbpaaa

/-! The program's device: the walk of Image. -/
namespace Go.Proofs.Ytdminbjenbbpaaa
open Go.RowKit Go.Maps
variable {w : World} {F : Own} {o T : Nat} {L : Lay} {R : Dv}

/-- The roles of blocks that are not there yet may be forgotten. -/
def Own.trim (F : Own) (w : World) : Own := fun k => if k < w.heap.size then F k else none
theorem Own.trim_ext (F : Own) (w : World) : Ext w F (F.trim w) := fun _ hk => if_pos hk
theorem Own.trim_new (F : Own) (w : World) {k : Nat} (h : w.heap.size ≤ k) : F.trim w k = none := if_neg (by omega)
theorem DevSt.trim (h : DevSt w F o L T R) : DevSt w (F.trim w) o L T R := h.kept (Only.refl (fun _ => False) _) (F.trim_ext w) (fun _ _ s => s.elim)

end Go.Proofs.Ytdminbjenbbpaaa
