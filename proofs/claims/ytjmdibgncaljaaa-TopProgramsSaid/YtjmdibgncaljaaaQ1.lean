/- The reference's run as data, and that it agrees with the program's run (plain, no program). -/
import Derived.Test.YtjmdibgncaljaaaO16
namespace Go.Proofs.Ytjmdibgncaljaaa

/-- A store of the reference. -/
structure RSt where
  line : Nat
  off : Nat
  val : Nat
  mand : Bool
def RSt.zero : RSt := ⟨0, 0, 0, false⟩
def loosB (line : Nat) (s : RSt) : Bool := decide (s.line = line) && !s.mand
def looseP (l : List RSt) (line : Nat) : Nat := (l.filter (loosB line)).length
def hitB (l : List RSt) (line most j : Nat) (s : RSt) : Bool := loosB line s && decide (looseP (l.take j) line < most)
/-- The first n stores, marked: at most 'most' loose ones of the line. -/
def mkP (l : List RSt) (line n most : Nat) : List RSt := l.mapIdx fun j s => if j < n ∧ hitB l line most j s = true then { s with mand := true } else s

theorem mkP_length (l : List RSt) (line n most : Nat) : (mkP l line n most).length = l.length := by simp [mkP]
theorem mkP_get (l : List RSt) (line n most j : Nat) : (mkP l line n most)[j]? = l[j]?.map fun s => if j < n ∧ hitB l line most j s = true then { s with mand := true } else s := by
  simp [mkP, List.getElem?_mapIdx]
theorem mkP_zero (l : List RSt) (line most : Nat) : mkP l line 0 most = l := by
  apply List.ext_getElem?
  intro j
  rw [mkP_get]
  cases l[j]? <;> simp
theorem mkP_at (l : List RSt) (line i most : Nat) (h : i < l.length) : (mkP l line i most)[i]? = some (l.getD i RSt.zero) := by
  rw [mkP_get, get_of_lt RSt.zero h]; simp
theorem mkP_hit (l : List RSt) (line i most : Nat) (h : i < l.length) (hh : hitB l line most i (l.getD i RSt.zero) = true) :
    mkP l line (i + 1) most = (mkP l line i most).set i { l.getD i RSt.zero with mand := true } := by
  apply List.ext_getElem?
  intro j
  rw [List.getElem?_set, mkP_get, mkP_length, mkP_get]
  by_cases hj : i = j
  · subst hj
    rw [if_pos rfl, if_pos h, get_of_lt RSt.zero h]
    simp only [Option.map_some]
    rw [if_pos ⟨by omega, hh⟩]
  · rw [if_neg hj]
    have e : (j < i + 1) = (j < i) := by rw [eq_iff_iff]; omega
    simp only [e]
theorem mkP_miss (l : List RSt) (line i most : Nat) (h : i < l.length) (hh : hitB l line most i (l.getD i RSt.zero) = false) :
    mkP l line (i + 1) most = mkP l line i most := by
  apply List.ext_getElem?
  intro j
  rw [mkP_get, mkP_get]
  by_cases hj : j = i
  · subst hj
    rw [get_of_lt RSt.zero h]
    simp only [Option.map_some, hh]
    simp
  · have e : (j < i + 1) = (j < i) := by rw [eq_iff_iff]; omega
    simp only [e]
theorem looseP_take_succ (l : List RSt) (line i : Nat) (h : i < l.length) : looseP (l.take (i + 1)) line = looseP (l.take i) line + if loosB line (l.getD i RSt.zero) = true then 1 else 0 := by
  unfold looseP
  rw [List.take_add_one, get_of_lt RSt.zero h, List.filter_append]
  simp only [Option.toList_some, List.filter_cons, List.filter_nil]
  split <;> simp_all
theorem looseP_le (l : List RSt) (line : Nat) : looseP l line ≤ l.length := List.length_filter_le _ _
theorem looseP_take_le (l : List RSt) (line j : Nat) : looseP (l.take j) line ≤ j := by
  have h1 := looseP_le (l.take j) line
  have h2 := List.length_take_le j l
  omega

/-- How many of the first m stores are in line l. -/
def cntL (ws : List (Nat × Nat)) (m l : Nat) : Nat := ((ws.take m).filter fun p => decide (p.1 / 64 = l)).length
theorem cntL_zero (ws : List (Nat × Nat)) (l : Nat) : cntL ws 0 l = 0 := by simp [cntL]
theorem cntL_succ (ws : List (Nat × Nat)) (m l : Nat) (h : m < ws.length) : cntL ws (m + 1) l = cntL ws m l + if (ws.getD m (0, 0)).1 / 64 = l then 1 else 0 := by
  unfold cntL
  rw [List.take_add_one, get_of_lt (0, 0) h, List.filter_append]
  simp only [Option.toList_some, List.filter_cons, List.filter_nil, decide_eq_true_eq]
  split <;> simp_all
theorem cntL_mono (ws : List (Nat × Nat)) (l : Nat) {a b : Nat} (h : a ≤ b) : cntL ws a l ≤ cntL ws b l := by
  unfold cntL
  have : (ws.take a).Sublist (ws.take b) := by
    have e : ws.take a = (ws.take b).take a := by rw [List.take_take, Nat.min_eq_left h]
    rw [e]; exact List.take_sublist _ _
  exact (this.filter _).length_le
theorem cntL_snoc (ws : List (Nat × Nat)) (p : Nat × Nat) (m l : Nat) (h : m ≤ ws.length) : cntL (ws ++ [p]) m l = cntL ws m l := by
  unfold cntL; rw [List.take_append_of_le_length h]
theorem cntL_le (ws : List (Nat × Nat)) (m l : Nat) : cntL ws m l ≤ m := by
  unfold cntL
  have h1 := List.length_filter_le (fun p : Nat × Nat => decide (p.1 / 64 = l)) (ws.take m)
  have h2 := List.length_take_le m ws
  omega
theorem cntL_lt (ws : List (Nat × Nat)) {i m : Nat} (l : Nat) (hi : i < ws.length) (hm : i < m) (hl : (ws.getD i (0, 0)).1 / 64 = l) : cntL ws i l < cntL ws m l := by
  have h1 := cntL_succ ws i l hi
  rw [if_pos hl] at h1
  have h2 := cntL_mono ws l (show i + 1 ≤ m by omega)
  omega

/-- The stores of a graph as the reference has them. -/
def stf (G : Gr) : List RSt := (List.range G.ws.length).map fun i => ⟨G.line i, (G.ws.getD i (0, 0)).1, (G.ws.getD i (0, 0)).2, G.must i⟩
theorem stf_length (G : Gr) : (stf G).length = G.ws.length := by simp [stf]
theorem stf_get (G : Gr) (i : Nat) (h : i < G.ws.length) : (stf G)[i]? = some ⟨G.line i, (G.ws.getD i (0, 0)).1, (G.ws.getD i (0, 0)).2, G.must i⟩ := by
  unfold stf; rw [List.getElem?_map, List.getElem?_range h]; rfl
theorem stf_getD (G : Gr) (i : Nat) (h : i < G.ws.length) : (stf G).getD i RSt.zero = ⟨G.line i, (G.ws.getD i (0, 0)).1, (G.ws.getD i (0, 0)).2, G.must i⟩ := by
  rw [List.getD, stf_get G i h]; rfl

structure RRun where
  words : List Nat
  out : List RSt
  fl : List (Nat × Nat × Nat)
def fenceO (t : Nat) (out : List RSt) (fl : List (Nat × Nat × Nat)) : List RSt := fl.foldl (fun o f => if f.1 = t then mkP o f.2.1 f.2.2 o.length else o) out
def refStep (n : Nat) (S : RRun) (e : Ev) : RRun :=
  if (e.off < 64 * n ∧ e.off % 8 = 0) ∧ (e.k = 1 ∨ (e.k = 2 ∧ S.words.getD (e.off / 8) 0 = e.old)) then ⟨S.words.set (e.off / 8) e.val, S.out ++ [⟨e.off / 64, e.off, e.val, false⟩], S.fl⟩
  else if e.k = 3 ∧ e.off < 64 * n then ⟨S.words, S.out, S.fl ++ [(e.t, e.off / 64, S.out.length)]⟩
  else if e.k = 4 then ⟨S.words, fenceO e.t S.out S.fl, S.fl.filter fun f => decide (f.1 ≠ e.t)⟩
  else if e.k = 5 ∧ e.n ≤ (looseP S.out e.line : Int) then ⟨S.words, mkP S.out e.line S.out.length e.n.toNat, S.fl⟩
  else S

def lastF (fl : List (Nat × Nat × Nat)) (t l : Nat) : Option (Nat × Nat × Nat) := (fl.filter fun f => decide (f.1 = t) && decide (f.2.1 = l)).getLast?
/-- Ranks and counts are what the stores say. -/
structure Gr.Count (G : Gr) : Prop where
  rank : ∀ i, i < G.ws.length → G.rk.getD i 0 = cntL G.ws i (G.line i)
  count : ∀ l, l < G.n → G.ct.getD l 0 = cntL G.ws G.ws.length l
structure Agree (R : Rn) (S : RRun) : Prop where
  cg : R.G.Count
  out : S.out = stf R.G
  wl : S.words.length = 8 * R.G.n
  wd : ∀ k, k < 8 * R.G.n → S.words.getD k 0 = R.cur (8 * k)
  fb : ∀ f ∈ S.fl, f.2.1 < R.G.n ∧ f.2.2 ≤ R.G.ws.length
  mono : S.fl.Pairwise fun f f' => f.2.2 ≤ f'.2.2
  note : ∀ t l, R.note t l = (lastF S.fl t l).map fun f => cntL R.G.ws f.2.2 l

theorem Gr.Count.must {G : Gr} (h : G.Count) {i : Nat} (hi : i < G.ws.length) : G.must i = decide (cntL G.ws i (G.line i) < G.md.getD (G.line i) 0) := by
  unfold Gr.must; rw [h.rank i hi]
theorem loose_stf {G : Gr} (h : G.Count) (L : Nat) : ∀ m, m ≤ G.ws.length → looseP ((stf G).take m) L = cntL G.ws m L - G.md.getD L 0
  | 0, _ => by simp [looseP, cntL]
  | m + 1, hm => by
    have ih := loose_stf h L m (by omega)
    rw [looseP_take_succ _ _ _ (by rw [stf_length]; omega), ih, cntL_succ _ _ _ (by omega), stf_getD _ _ (by omega)]
    unfold loosB
    have hl : G.line m = (G.ws.getD m (0, 0)).1 / 64 := rfl
    rw [h.must (by omega)]
    rw [← hl]
    by_cases hL : G.line m = L
    · rw [hL]
      generalize G.md.getD L 0 = mv at *
      generalize cntL G.ws m L = cv at *
      by_cases hc : cv < mv
      · simp [hc]; omega
      · simp [hc]; omega
    · simp [hL]
theorem loose_all {G : Gr} (h : G.Count) (L : Nat) : looseP (stf G) L = cntL G.ws G.ws.length L - G.md.getD L 0 := by
  have := loose_stf h L G.ws.length (Nat.le_refl _)
  rwa [List.take_of_length_le (by rw [stf_length]; exact Nat.le_refl _)] at this
theorem getD_set_nat (l : List Nat) (L v k : Nat) (hL : L < l.length) : (l.set L v).getD k 0 = if k = L then v else l.getD k 0 := by
  by_cases hk : k = L
  · subst hk; rw [if_pos rfl, List.getD, List.getElem?_set_self hL]; rfl
  · rw [if_neg hk, List.getD, List.getElem?_set_ne (Ne.symm hk)]; rfl

/-- Two graphs that differ in what is mandatory. -/
theorem stf_md (G : Gr) (md : List Nat) (l : List RSt) (hl : l.length = G.ws.length)
    (h : ∀ i, i < G.ws.length → l[i]? = some ⟨G.line i, (G.ws.getD i (0, 0)).1, (G.ws.getD i (0, 0)).2, decide (G.rk.getD i 0 < md.getD (G.line i) 0)⟩) : l = stf { G with md := md } := by
  apply List.ext_getElem?
  intro i
  by_cases hi : i < G.ws.length
  · rw [h i hi, stf_get { G with md := md } i hi]; rfl
  · rw [List.getElem?_eq_none (by omega), List.getElem?_eq_none (by rw [stf_length]; show G.ws.length ≤ i; omega)]

theorem mark_fence {G : Gr} (h : G.Count) (ml : G.md.length = G.n) (L n : Nat) (hL : L < G.n) (hn : n ≤ G.ws.length) :
    mkP (stf G) L n (stf G).length = stf { G with md := G.md.set L (max (G.md.getD L 0) (cntL G.ws n L)) } := by
  have _hn := hn
  refine stf_md G _ _ (by rw [mkP_length, stf_length]) fun i hi => ?_
  rw [mkP_get, stf_get G i hi, getD_set_nat _ _ _ _ (by omega)]
  simp only [Option.map_some, hitB, loosB]
  have hlo := looseP_take_le (stf G) L i
  have hlt : looseP ((stf G).take i) L < (stf G).length := by rw [stf_length]; omega
  rw [h.must hi, h.rank i hi]
  by_cases hl : G.line i = L
  · have hle : G.line i = (G.ws.getD i (0, 0)).1 / 64 := rfl
    rw [hl] at hle
    have hc : i < n ↔ cntL G.ws i L < cntL G.ws n L := by
      constructor
      · intro hin; exact cntL_lt G.ws L hi hin hle.symm
      · intro hc
        rcases Nat.lt_or_ge i n with h1 | h1
        · exact h1
        · have := cntL_mono G.ws L h1; omega
    rw [hl]
    generalize G.md.getD L 0 = mv at *
    generalize cntL G.ws i L = cv at *
    generalize cntL G.ws n L = dv at *
    by_cases hm : cv < mv
    · simp [hm, hlt]; omega
    · by_cases hin : i < n
      · have := hc.1 hin
        simp [hm, hlt, hin]; omega
      · have := mt hc.2 hin
        simp [hm, hin]; omega
  · simp [hl]
theorem mark_back {G : Gr} (h : G.Count) (ml : G.md.length = G.n) (L N : Nat) (hL : L < G.n) :
    mkP (stf G) L (stf G).length N = stf { G with md := G.md.set L (G.md.getD L 0 + N) } := by
  refine stf_md G _ _ (by rw [mkP_length, stf_length]) fun i hi => ?_
  rw [mkP_get, stf_get G i hi, getD_set_nat _ _ _ _ (by omega)]
  simp only [Option.map_some, hitB, loosB, loose_stf h L i (Nat.le_of_lt hi), stf_length]
  rw [h.must hi, h.rank i hi]
  by_cases hl : G.line i = L
  · rw [hl]
    generalize G.md.getD L 0 = mv at *
    generalize cntL G.ws i L = cv at *
    by_cases hm : cv < mv
    · simp [hm, hi]; omega
    · by_cases hN : cv - mv < N
      · simp [hm, hi, hN]; omega
      · simp [hm, hi, hN]; omega
  · simp [hl]
theorem mark_none {l : List RSt} (L n : Nat) : mkP l L n 0 = l := by
  apply List.ext_getElem?
  intro j
  rw [mkP_get]
  cases l[j]? <;> simp [hitB]

theorem lastF_nil (t l : Nat) : lastF [] t l = none := rfl
theorem lastF_snoc (fl : List (Nat × Nat × Nat)) (f : Nat × Nat × Nat) (t l : Nat) : lastF (fl ++ [f]) t l = if f.1 = t ∧ f.2.1 = l then some f else lastF fl t l := by
  unfold lastF
  rw [List.filter_append]
  by_cases h : f.1 = t ∧ f.2.1 = l
  · rw [if_pos h]
    have : (List.filter (fun f => decide (f.1 = t) && decide (f.2.1 = l)) [f]) = [f] := by simp [h.1, h.2]
    rw [this]; simp
  · rw [if_neg h]
    have : (List.filter (fun f => decide (f.1 = t) && decide (f.2.1 = l)) [f]) = [] := by simp; intro h1; exact fun h2 => h ⟨h1, h2⟩
    rw [this, List.append_nil]
theorem lastF_mem {fl : List (Nat × Nat × Nat)} {t l : Nat} {f : Nat × Nat × Nat} (h : lastF fl t l = some f) : f ∈ fl ∧ f.1 = t ∧ f.2.1 = l := by
  have := List.mem_of_getLast? h
  rw [List.mem_filter] at this
  simpa using this
/-- What is mandatory after the flushes of a thread have been fenced. -/
def fenceM (G : Gr) (t : Nat) (fl : List (Nat × Nat × Nat)) : List Nat := fl.foldl (fun md f => if f.1 = t then md.set f.2.1 (max (md.getD f.2.1 0) (cntL G.ws f.2.2 f.2.1)) else md) G.md
theorem fenceM_snoc (G : Gr) (t : Nat) (fl : List (Nat × Nat × Nat)) (f : Nat × Nat × Nat) :
    fenceM G t (fl ++ [f]) = if f.1 = t then (fenceM G t fl).set f.2.1 (max ((fenceM G t fl).getD f.2.1 0) (cntL G.ws f.2.2 f.2.1)) else fenceM G t fl := by
  unfold fenceM; rw [List.foldl_append]; rfl
theorem fenceO_snoc (t : Nat) (out : List RSt) (fl : List (Nat × Nat × Nat)) (f : Nat × Nat × Nat) :
    fenceO t out (fl ++ [f]) = if f.1 = t then mkP (fenceO t out fl) f.2.1 f.2.2 (fenceO t out fl).length else fenceO t out fl := by
  unfold fenceO; rw [List.foldl_append]; rfl
theorem snoc_ind {α : Type} {P : List α → Prop} (h0 : P []) (h1 : ∀ l a, P l → P (l ++ [a])) (l : List α) : P l := by
  have h : ∀ l : List α, P l.reverse := by
    intro l
    induction l with
    | nil => exact h0
    | cons a l ih => rw [List.reverse_cons]; exact h1 _ _ ih
  have := h l.reverse
  rwa [List.reverse_reverse] at this
theorem fenceM_length (G : Gr) (t : Nat) (fl : List (Nat × Nat × Nat)) : (fenceM G t fl).length = G.md.length := by
  induction fl using snoc_ind with
  | h0 => rfl
  | h1 fl f ih => rw [fenceM_snoc]; split <;> simp [ih]
theorem fence_stf {G : Gr} (h : G.Count) (ml : G.md.length = G.n) (t : Nat) (fl : List (Nat × Nat × Nat)) (hb : ∀ f ∈ fl, f.2.1 < G.n ∧ f.2.2 ≤ G.ws.length) :
    fenceO t (stf G) fl = stf { G with md := fenceM G t fl } := by
  induction fl using snoc_ind with
  | h0 => rfl
  | h1 fl f ih =>
    have ih := ih fun g hg => hb g (by simp [hg])
    obtain ⟨b1, b2⟩ := hb f (by simp)
    rw [fenceO_snoc, fenceM_snoc, ih]
    by_cases hf : f.1 = t
    · rw [if_pos hf, if_pos hf]
      exact mark_fence (G := { G with md := fenceM G t fl }) ⟨h.rank, h.count⟩ (by show (fenceM G t fl).length = G.n; rw [fenceM_length]; exact ml) _ _ b1 b2
    · rw [if_neg hf, if_neg hf]
theorem fenceM_get {G : Gr} (ml : G.md.length = G.n) (t : Nat) (fl : List (Nat × Nat × Nat)) (hb : ∀ f ∈ fl, f.2.1 < G.n) (mono : fl.Pairwise fun f f' => f.2.2 ≤ f'.2.2) (l : Nat) :
    (fenceM G t fl).getD l 0 = match lastF fl t l with | none => G.md.getD l 0 | some f => max (G.md.getD l 0) (cntL G.ws f.2.2 l) := by
  induction fl using snoc_ind with
  | h0 => rfl
  | h1 fl f ih =>
    rw [List.pairwise_append] at mono
    obtain ⟨m1, _, m2⟩ := mono
    have ih := ih (fun g hg => hb g (by simp [hg])) m1
    have b1 := hb f (by simp)
    rw [fenceM_snoc, lastF_snoc]
    by_cases hf : f.1 = t
    · rw [if_pos hf, getD_set_nat _ _ _ _ (by rw [fenceM_length, ml]; exact b1)]
      by_cases hl : l = f.2.1
      · subst hl
        rw [if_pos rfl, if_pos ⟨hf, rfl⟩, ih]
        cases hq : lastF fl t f.2.1 with
        | none => rfl
        | some g =>
          have hg := (lastF_mem hq).1
          have := m2 g hg f (by simp)
          have := cntL_mono G.ws f.2.1 this
          simp only
          omega
      · rw [if_neg hl, if_neg (fun h => hl h.2.symm)]; exact ih
    · rw [if_neg hf, if_neg (fun h => hf h.1)]; exact ih

theorem lastF_other (fl : List (Nat × Nat × Nat)) (t t' l : Nat) : lastF (fl.filter fun f => decide (f.1 ≠ t)) t' l = if t' = t then none else lastF fl t' l := by
  unfold lastF
  rw [List.filter_filter]
  by_cases h : t' = t
  · subst h
    rw [if_pos rfl]
    have : (fl.filter fun f => (decide (f.1 = t') && decide (f.2.1 = l)) && decide (f.1 ≠ t')) = [] := by
      rw [List.filter_eq_nil_iff]; intro f _; simp; omega
    rw [this]; rfl
  · rw [if_neg h]
    congr 1
    apply List.filter_congr
    intro f _
    by_cases h1 : f.1 = t'
    · simp [h1, h]
    · simp [h1]

theorem cnt_line_none {G : Gr} (off : ∀ p ∈ G.ws, p.1 < 64 * G.n) (L : Nat) (hL : G.n ≤ L) (m : Nat) : cntL G.ws m L = 0 := by
  unfold cntL
  rw [List.length_eq_zero_iff, List.filter_eq_nil_iff]
  intro p hp
  have := off p (List.mem_of_mem_take hp)
  simp; omega
theorem stf_snoc {R : Rn} {off v : Nat} (rl : R.G.rk.length = R.G.ws.length) (mc : R.G.md.getD (off / 64) 0 ≤ R.G.ct.getD (off / 64) 0) : stf (storeP R off v).G = stf R.G ++ [⟨off / 64, off, v, false⟩] := by
  apply List.ext_getElem?
  intro i
  have hw : (storeP R off v).G.ws = R.G.ws ++ [(off, v)] := rfl
  have hk : (storeP R off v).G.rk = R.G.rk ++ [R.G.ct.getD (off / 64) 0] := rfl
  have hm : (storeP R off v).G.md = R.G.md := rfl
  rcases Nat.lt_trichotomy i R.G.ws.length with hi | hi | hi
  · rw [List.getElem?_append_left (by rw [stf_length]; exact hi), stf_get _ _ hi, stf_get _ _ (by rw [hw]; simp; omega)]
    have e1 : (R.G.ws ++ [(off, v)]).getD i (0, 0) = R.G.ws.getD i (0, 0) := by rw [List.getD, List.getElem?_append_left hi]; rfl
    have e2 : (R.G.rk ++ [R.G.ct.getD (off / 64) 0]).getD i 0 = R.G.rk.getD i 0 := by rw [List.getD, List.getElem?_append_left (by omega)]; rfl
    unfold Gr.must Gr.line
    rw [hw, hk, hm, e1, e2]
  · subst hi
    rw [List.getElem?_append_right (by rw [stf_length]; exact Nat.le_refl _), stf_get _ _ (by rw [hw]; simp), stf_length]
    have e1 : (R.G.ws ++ [(off, v)]).getD R.G.ws.length (0, 0) = (off, v) := by rw [List.getD, List.getElem?_append_right (Nat.le_refl _)]; simp
    have e2 : (R.G.rk ++ [R.G.ct.getD (off / 64) 0]).getD R.G.ws.length 0 = R.G.ct.getD (off / 64) 0 := by rw [List.getD, List.getElem?_append_right (by omega), rl]; simp
    unfold Gr.must Gr.line
    rw [hw, hk, hm, e1, e2]
    simp; exact mc
  · rw [List.getElem?_eq_none (by rw [stf_length, hw]; simp; omega), List.getElem?_eq_none (by simp [stf_length]; omega)]
theorem count_snoc {R : Rn} {off v : Nat} (h : R.G.Count) (rl : R.G.rk.length = R.G.ws.length) (cl : R.G.ct.length = R.G.n) (ho : off < 64 * R.G.n) : (storeP R off v).G.Count := by
  have hw : (storeP R off v).G.ws = R.G.ws ++ [(off, v)] := rfl
  have hk : (storeP R off v).G.rk = R.G.rk ++ [R.G.ct.getD (off / 64) 0] := rfl
  have hc : (storeP R off v).G.ct = R.G.ct.set (off / 64) (R.G.ct.getD (off / 64) 0 + 1) := rfl
  have hn : (storeP R off v).G.n = R.G.n := rfl
  have e1 : (R.G.ws ++ [(off, v)]).getD R.G.ws.length (0, 0) = (off, v) := by rw [List.getD, List.getElem?_append_right (Nat.le_refl _)]; simp
  refine ⟨fun i hi => ?_, fun l hl => ?_⟩
  · unfold Gr.line
    rw [hw] at hi ⊢
    rw [hk]
    rcases Nat.lt_or_ge i R.G.ws.length with h1 | h1
    · have e1 : (R.G.ws ++ [(off, v)]).getD i (0, 0) = R.G.ws.getD i (0, 0) := by rw [List.getD, List.getElem?_append_left h1]; rfl
      have e2 : (R.G.rk ++ [R.G.ct.getD (off / 64) 0]).getD i 0 = R.G.rk.getD i 0 := by rw [List.getD, List.getElem?_append_left (by omega)]; rfl
      rw [e1, e2, cntL_snoc _ _ _ _ (by omega)]
      exact h.rank i h1
    · obtain rfl : i = R.G.ws.length := by simp at hi; omega
      have e2 : (R.G.rk ++ [R.G.ct.getD (off / 64) 0]).getD R.G.ws.length 0 = R.G.ct.getD (off / 64) 0 := by rw [List.getD, List.getElem?_append_right (by omega), rl]; simp
      rw [e1, e2, cntL_snoc _ _ _ _ (Nat.le_refl _)]
      exact h.count _ (by omega)
  · rw [hc, getD_set_nat _ _ _ _ (by omega)]
    rw [hw]
    rw [hn] at hl
    have e : (R.G.ws ++ [(off, v)]).length = R.G.ws.length + 1 := by simp
    rw [e, cntL_succ _ _ _ (by omega), e1, cntL_snoc _ _ _ _ (Nat.le_refl _)]
    have := h.count l hl
    by_cases hq : l = off / 64
    · subst hq; rw [if_pos rfl, if_pos rfl, this]
    · rw [if_neg hq, if_neg (fun e => hq e.symm), this, Nat.add_zero]

theorem agree_store {R : Rn} {S : RRun} {T off v : Nat} (ok : R.Ok T) (h : Agree R S) (ho : off < 64 * R.G.n) (ha : off % 8 = 0) :
    Agree (storeP R off v) ⟨S.words.set (off / 8) v, S.out ++ [⟨off / 64, off, v, false⟩], S.fl⟩ := by
  have hw : (storeP R off v).G.ws = R.G.ws ++ [(off, v)] := rfl
  refine ⟨count_snoc h.cg ok.rl ok.cl ho, ?_, by have := h.wl; simp; exact this, ?_, ?_, h.mono, ?_⟩
  · rw [stf_snoc ok.rl (ok.mc _), h.out]
  · intro k hk
    have hk : k < 8 * R.G.n := hk
    rw [getD_set_nat _ _ _ _ (by have := h.wl; omega)]
    show _ = if 8 * k = off then v else R.cur (8 * k)
    by_cases hq : k = off / 8
    · rw [if_pos hq, if_pos (by omega)]
    · rw [if_neg hq, if_neg (by omega)]; exact h.wd k hk
  · intro f hf
    have := h.fb f hf
    rw [hw]; simp; exact ⟨this.1, by omega⟩
  · intro t l
    show R.note t l = _
    rw [h.note t l, hw]
    cases hq : lastF S.fl t l with
    | none => rfl
    | some f =>
      simp only [Option.map_some]
      rw [cntL_snoc _ _ _ _ (h.fb f (lastF_mem hq).1).2]

theorem agree_step {R : Rn} {S : RRun} {T : Nat} {e : Ev} (ok : R.Ok T) (h : Agree R S) (he : e.Fit) : Agree (execP R e) (refStep R.G.n S e) := by
  have hk := he.k
  obtain h1 | h1 | h1 | h1 | h1 : e.k = 1 ∨ e.k = 2 ∨ e.k = 3 ∨ e.k = 4 ∨ e.k = 5 := by omega
  · unfold execP refStep
    rw [h1]
    by_cases hw : e.off < 64 * R.G.n ∧ e.off % 8 = 0
    · simp only [hw, and_self, true_or, if_true]
      exact agree_store ok h hw.1 hw.2
    · simp [hw, h]
  · unfold execP refStep
    rw [h1]
    by_cases hw : e.off < 64 * R.G.n ∧ e.off % 8 = 0
    · have hcur := h.wd (e.off / 8) (by omega)
      rw [show 8 * (e.off / 8) = e.off by omega] at hcur
      rw [hcur]
      by_cases hc : R.cur e.off = e.old
      · simp only [hw, hc]
        simp
        exact agree_store ok h hw.1 hw.2
      · simp [hw, hc, h]
    · simp [hw, h]
  · unfold execP refStep
    rw [h1]
    by_cases hin : e.off < 64 * R.G.n
    · have hlt : e.off / 64 < R.G.n := by omega
      have hlen : S.out.length = R.G.ws.length := by rw [h.out, stf_length]
      rw [if_neg (by decide), if_neg (by decide), if_pos rfl, if_pos hin, if_neg (by omega), if_pos ⟨rfl, hin⟩]
      refine ⟨⟨h.cg.rank, h.cg.count⟩, h.out, h.wl, h.wd, ?_, ?_, ?_⟩
      · intro f hf
        simp at hf
        rcases hf with hf | rfl
        · exact h.fb f hf
        · exact ⟨hlt, by rw [hlen]; exact Nat.le_refl _⟩
      · rw [List.pairwise_append]
        refine ⟨h.mono, by simp, ?_⟩
        intro f hf g hg
        simp at hg
        subst hg
        rw [hlen]
        exact (h.fb f hf).2
      · intro t l
        rw [lastF_snoc]
        simp only [noteP]
        by_cases hq : t = e.t ∧ l = e.off / 64
        · rw [if_pos hq, if_pos ⟨hq.1.symm, hq.2.symm⟩]
          simp only [Option.map_some]
          rw [hlen, hq.2, h.cg.count _ hlt]
        · rw [if_neg hq, if_neg (fun hh => hq ⟨hh.1.symm, hh.2.symm⟩)]
          exact h.note t l
    · simp [hin, h]
  · unfold execP refStep
    rw [h1]
    simp
    have hml : fenceM R.G e.t S.fl = fenceL R e.t := by
      apply List.ext_getElem?
      intro l
      by_cases hl : l < R.G.n
      · have g1 := fenceM_get ok.ml e.t S.fl (fun f hf => (h.fb f hf).1) h.mono l
        have g2 := fenceL_get R e.t l hl
        rw [get_of_lt 0 (by rw [fenceM_length, ok.ml]; exact hl), get_of_lt 0 (by simp [fenceL]; exact hl), g1, g2, h.note]
        cases lastF S.fl e.t l <;> rfl
      · rw [List.getElem?_eq_none (by rw [fenceM_length, ok.ml]; omega), List.getElem?_eq_none (by simp [fenceL]; omega)]
    refine ⟨⟨h.cg.rank, h.cg.count⟩, ?_, h.wl, h.wd, ?_, ?_, ?_⟩
    · rw [h.out, fence_stf h.cg ok.ml e.t S.fl h.fb, hml]; rfl
    · intro f hf
      rw [List.mem_filter] at hf
      exact h.fb f hf.1
    · exact h.mono.filter _
    · intro t l
      have := lastF_other S.fl e.t t l
      simp only [ne_eq] at this
      simp only [decide_not] at this ⊢
      rw [this]
      simp only [fenceP]
      split
      · rfl
      · exact h.note t l
  · unfold execP refStep
    rw [h1]
    have hn := he.n h1
    have hoff : ∀ p ∈ R.G.ws, p.1 < 64 * R.G.n := fun p hp => (ok.off p hp).1
    rw [h.out, loose_all h.cg]
    by_cases hL : e.line < R.G.n
    · have hct := h.cg.count e.line hL
      rw [← hct]
      have hmc := ok.mc e.line
      have ecast : ((R.G.ct.getD e.line 0 - R.G.md.getD e.line 0 : Nat) : Int) = (R.G.ct.getD e.line 0 : Int) - (R.G.md.getD e.line 0 : Int) := by omega
      rw [ecast]
      by_cases hle : e.n ≤ (R.G.ct.getD e.line 0 : Int) - (R.G.md.getD e.line 0 : Int)
      · simp only [hL, hle]
        simp
        refine ⟨⟨h.cg.rank, h.cg.count⟩, ?_, h.wl, h.wd, h.fb, h.mono, h.note⟩
        rw [mark_back h.cg ok.ml _ _ hL]; rfl
      · simp only [hL, hle]
        simp
        exact h
    · rw [cnt_line_none hoff _ (by omega)]
      by_cases hz : e.n ≤ 0
      · have e0 : e.n.toNat = 0 := by omega
        simp [hL, hz, e0, mark_none]
        rw [← h.out]
        exact h
      · simp [hL, hz]
        exact h
end Go.Proofs.Ytjmdibgncaljaaa
