/- CrashsetDistinct, plain: the number of distinct images is the product of the lines' numbers of distinct contents. -/
import Derived.Test.YtikjpklbbjmioaaK31
import Derived.Test.YtikjpklbbjmioaaP3
import Derived.Maps.OwnSet
namespace Go.Proofs.Ytikjpklbbjmioaa
open Go.RowKit Go.Maps
variable {α β γ : Type}
/-- The list has m different elements. -/
def Card (xs : List α) (m : Nat) : Prop := ∃ ys : List α, ys.Nodup ∧ (∀ x, x ∈ ys ↔ x ∈ xs) ∧ ys.length = m
theorem nodup_le : ∀ (xs ys : List α), xs.Nodup → (∀ x, x ∈ xs → x ∈ ys) → xs.length ≤ ys.length
  | [], ys, _, _ => Nat.zero_le _
  | x :: r, ys, hn, hs => by
    obtain ⟨h1, h2⟩ := List.nodup_cons.1 hn
    obtain ⟨a, b, rfl⟩ := List.append_of_mem (hs x (by simp))
    have := nodup_le r (a ++ b) h2 (fun y hy => by
      have h3 := hs y (by simp [hy])
      have h4 : y ≠ x := fun e => h1 (e ▸ hy)
      simp only [List.mem_append, List.mem_cons] at h3 ⊢
      rcases h3 with h | h | h
      · exact .inl h
      · exact absurd h h4
      · exact .inr h)
    simp only [List.length_append, List.length_cons] at this ⊢
    omega
theorem Card.uniq {xs : List α} {m m' : Nat} (h : Card xs m) (h' : Card xs m') : m = m' := by
  obtain ⟨a, a1, a2, rfl⟩ := h
  obtain ⟨b, b1, b2, rfl⟩ := h'
  exact Nat.le_antisymm (nodup_le a b a1 fun x hx => (b2 x).2 ((a2 x).1 hx)) (nodup_le b a b1 fun x hx => (a2 x).2 ((b2 x).1 hx))
theorem Card.mem {xs xs' : List α} {m : Nat} (h : Card xs m) (he : ∀ x, x ∈ xs ↔ x ∈ xs') : Card xs' m := by
  obtain ⟨a, a1, a2, a3⟩ := h
  exact ⟨a, a1, fun x => (a2 x).trans (he x), a3⟩
theorem repr_of {f : γ → α} {zs : List γ} : ∀ ys : List α, (∀ y ∈ ys, y ∈ zs.map f) → ∃ rs : List γ, rs.map f = ys ∧ ∀ r ∈ rs, r ∈ zs
  | [], _ => ⟨[], rfl, by simp⟩
  | y :: t, h => by
    obtain ⟨rs, h1, h2⟩ := repr_of t (fun z hz => h z (by simp [hz]))
    obtain ⟨r, hr, rfl⟩ := List.mem_map.1 (h y (by simp))
    exact ⟨r :: rs, by rw [List.map_cons, h1], fun z hz => by
      rcases List.mem_cons.1 hz with rfl | hz
      · exact hr
      · exact h2 z hz⟩
theorem nodup_trade {f : γ → α} {g : γ → β} : ∀ rs : List γ, (∀ a ∈ rs, ∀ b ∈ rs, g a = g b → f a = f b) → (rs.map f).Nodup → (rs.map g).Nodup
  | [], _, _ => by simp
  | r :: t, h, hn => by
    simp only [List.map_cons, List.nodup_cons] at hn ⊢
    refine ⟨fun hm => hn.1 ?_, nodup_trade t (fun a ha b hb => h a (by simp [ha]) b (by simp [hb])) hn.2⟩
    obtain ⟨a, ha, e⟩ := List.mem_map.1 hm
    exact List.mem_map.2 ⟨a, ha, h a (by simp [ha]) r (by simp) e⟩
theorem Card.trade {f : γ → α} {g : γ → β} {zs : List γ} {m : Nat} (h : Card (zs.map f) m) (he : ∀ a ∈ zs, ∀ b ∈ zs, f a = f b ↔ g a = g b) : Card (zs.map g) m := by
  obtain ⟨ys, h1, h2, h3⟩ := h
  obtain ⟨rs, rfl, h5⟩ := repr_of ys (fun y hy => (h2 y).1 hy)
  refine ⟨rs.map g, nodup_trade rs (fun a ha b hb e => (he a (h5 a ha) b (h5 b hb)).2 e) h1, fun x => ⟨fun hx => ?_, fun hx => ?_⟩, by simpa using h3⟩
  · obtain ⟨a, ha, rfl⟩ := List.mem_map.1 hx
    exact List.mem_map.2 ⟨a, h5 a ha, rfl⟩
  · obtain ⟨a, ha, rfl⟩ := List.mem_map.1 hx
    obtain ⟨b, hb, e⟩ := List.mem_map.1 ((h2 (f a)).2 (List.mem_map.2 ⟨a, ha, rfl⟩))
    exact List.mem_map.2 ⟨b, hb, (he b (h5 b hb) a ha).1 e⟩
theorem nodup_pairs (la : List α) (bs : List (List α)) (ha : la.Nodup) (hb : bs.Nodup) : (la.flatMap fun a => bs.map (a :: ·)).Nodup ∧ (la.flatMap fun a => bs.map (a :: ·)).length = la.length * bs.length := by
  induction la with
  | nil => simp
  | cons a r ih =>
    obtain ⟨h1, h2⟩ := List.nodup_cons.1 ha
    obtain ⟨i1, i2⟩ := ih h2
    rw [List.flatMap_cons]
    refine ⟨List.nodup_append.2 ⟨nodup_trade (f := id) (g := (a :: ·)) bs (fun x _ y _ e => by injection e) (by simpa using hb), i1, fun x hx y hy e => ?_⟩, ?_⟩
    · subst e
      obtain ⟨b, _, rfl⟩ := List.mem_map.1 hx
      obtain ⟨a', ha', hy⟩ := List.mem_flatMap.1 hy
      obtain ⟨b', _, e⟩ := List.mem_map.1 hy
      injection e with e1 _
      exact h1 (e1 ▸ ha')
    · rw [List.length_append, i2, List.length_map, List.length_cons, Nat.succ_mul]; omega
theorem Card.pair {f : Nat → α} {g : Nat → List α} {b p m n : Nat} (hf : Card ((List.range b).map f) m) (hg : Card ((List.range p).map g) n) : Card ((List.range (b * p)).map fun k => f (k / p) :: g (k % p)) (m * n) := by
  obtain ⟨la, a1, a2, rfl⟩ := hf
  obtain ⟨bs, b1, b2, rfl⟩ := hg
  obtain ⟨h1, h2⟩ := nodup_pairs la bs a1 b1
  refine ⟨_, h1, fun x => ⟨fun hx => ?_, fun hx => ?_⟩, h2⟩
  · obtain ⟨a, ha, hx⟩ := List.mem_flatMap.1 hx
    obtain ⟨c, hc, rfl⟩ := List.mem_map.1 hx
    obtain ⟨i, hi, rfl⟩ := List.mem_map.1 ((a2 a).1 ha)
    obtain ⟨j, hj, rfl⟩ := List.mem_map.1 ((b2 c).1 hc)
    have hi := List.mem_range.1 hi
    have hj := List.mem_range.1 hj
    refine List.mem_map.2 ⟨i * p + j, List.mem_range.2 ?_, ?_⟩
    · calc i * p + j < i * p + p := by omega
        _ = (i + 1) * p := (Nat.succ_mul i p).symm
        _ ≤ b * p := Nat.mul_le_mul_right p hi
    · have e1 : (i * p + j) / p = i := by rw [Nat.mul_comm, Nat.mul_add_div (by omega), Nat.div_eq_of_lt hj]; rfl
      have e2 : (i * p + j) % p = j := by rw [Nat.mul_comm, Nat.mul_add_mod, Nat.mod_eq_of_lt hj]
      show f ((i * p + j) / p) :: g ((i * p + j) % p) = _
      rw [e1, e2]
  · obtain ⟨k, hk, rfl⟩ := List.mem_map.1 hx
    have hk := List.mem_range.1 hk
    have hp : 0 < p := by rcases Nat.eq_zero_or_pos p with e | e
                          · rw [e, Nat.mul_zero] at hk; omega
                          · exact e
    exact List.mem_flatMap.2 ⟨f (k / p), (a2 _).2 (List.mem_map.2 ⟨_, List.mem_range.2 ((Nat.div_lt_iff_lt_mul hp).2 hk), rfl⟩), List.mem_map.2 ⟨_, (b2 _).2 (List.mem_map.2 ⟨_, List.mem_range.2 (Nat.mod_lt _ hp), rfl⟩), rfl⟩⟩
/-! ### keys -/
theorem same_dec {a b : Lit} (ha : WideAt.IsKeyLit a) : a.sameKey b = true ↔ a = b := ⟨fun h => WideAt.sameKey_eq h, fun h => by rw [← h]; exact WideAt.sameKey_self ha⟩
theorem addKeys_card : ∀ (xs L : List Lit), (∀ x ∈ xs, WideAt.IsKeyLit x) → (∀ x ∈ L, WideAt.IsKeyLit x) → L.Nodup → Card (L ++ xs) (xs.foldl addKey L).length
  | [], L, _, _, hn => by rw [List.append_nil]; exact ⟨L, hn, fun _ => Iff.rfl, rfl⟩
  | x :: r, L, hx, hL, hn => by
    rw [List.foldl_cons]
    unfold addKey
    by_cases h : L.any (fun y => y.sameKey x) = true
    · rw [if_pos h]
      obtain ⟨y, hy, e⟩ := List.any_eq_true.1 h
      obtain rfl := (same_dec (hL y hy)).1 e
      refine (addKeys_card r L (fun z hz => hx z (by simp [hz])) hL hn).mem fun z => ?_
      simp only [List.mem_append, List.mem_cons]
      constructor
      · rintro (h | h)
        · exact .inl h
        · exact .inr (.inr h)
      · rintro (h | rfl | h)
        · exact .inl h
        · exact .inl hy
        · exact .inr h
    · rw [if_neg h]
      have hni : x ∉ L := fun hm => h (List.any_eq_true.2 ⟨x, hm, WideAt.sameKey_self (hL x hm)⟩)
      refine (addKeys_card r (L ++ [x]) (fun z hz => hx z (by simp [hz])) (fun z hz => ?_) ?_).mem fun z => by simp
      · rcases List.mem_append.1 hz with h | h
        · exact hL z h
        · obtain rfl : z = x := by simpa using h
          exact hx z (by simp)
      · refine List.nodup_append.2 ⟨hn, by simp, fun a ha b hb e => ?_⟩
        obtain rfl : b = x := by simpa using hb
        exact hni (e ▸ ha)
theorem size_card {H : Type} (u : DataW H) (xs : List Lit) (h : ∀ x ∈ xs, WideAt.IsKeyLit x) : Card xs (size (setOf u xs)) := by
  rw [size_setOf u xs h]
  have := addKeys_card xs [] h (by simp) (by simp)
  simpa using this
/-! ### a device -/
variable {R : Dv} {T : Nat}
/-- How many contents a line has. -/
def addC (acc : List (List Nat)) (x : List Nat) : List (List Nat) := if x ∈ acc then acc else acc ++ [x]
def cntL (l : Ln) : Nat := (((List.range (l.hist.length + 1)).map (wordsL l)).foldl addC []).length
theorem addC_card : ∀ (xs L : List (List Nat)), L.Nodup → Card (L ++ xs) (xs.foldl addC L).length
  | [], L, hn => by rw [List.append_nil]; exact ⟨L, hn, fun _ => Iff.rfl, rfl⟩
  | x :: r, L, hn => by
    rw [List.foldl_cons]
    unfold addC
    by_cases h : x ∈ L
    · rw [if_pos h]
      refine (addC_card r L hn).mem fun z => ?_
      simp only [List.mem_append, List.mem_cons]
      constructor
      · rintro (h | h)
        · exact .inl h
        · exact .inr (.inr h)
      · rintro (h | rfl | h')
        · exact .inl h
        · exact .inl h
        · exact .inr h'
    · rw [if_neg h]
      refine (addC_card r (L ++ [x]) (List.nodup_append.2 ⟨hn, by simp, fun a ha b hb e => ?_⟩)).mem fun z => by simp
      obtain rfl : b = x := by simpa using hb
      exact h (e ▸ ha)
theorem cntL_card (l : Ln) : Card ((List.range (l.hist.length + 1)).map (wordsL l)) (cntL l) := by
  have := addC_card ((List.range (l.hist.length + 1)).map (wordsL l)) [] (by simp)
  simpa [cntL] using this
def prodC (R : Dv) : List Nat → Nat
  | [] => 1
  | l :: r => cntL (R.line l) * prodC R r
theorem prodC_snoc (R : Dv) (l : Nat) : ∀ ds : List Nat, prodC R (ds ++ [l]) = prodC R ds * cntL (R.line l)
  | [] => by simp [prodC]
  | d :: r => by rw [List.cons_append, prodC, prodC, prodC_snoc R l r, Nat.mul_assoc]
theorem prodL_cons (R : Dv) (l : Nat) (r : List Nat) : prodL R (l :: r) = baseL R l * prodL R r := by
  unfold prodL
  rw [List.foldl_cons, Nat.one_mul]
  suffices h : ∀ (r : List Nat) t, r.foldl (fun t l => t * baseL R l) t = t * r.foldl (fun t l => t * baseL R l) 1 from h r _
  intro r
  induction r with
  | nil => intro t; simp
  | cons x r ih =>
    intro t
    rw [List.foldl_cons, List.foldl_cons, ih, ih (1 * _)]
    rw [Nat.one_mul, Nat.mul_assoc]
theorem restR_div (R : Dv) : ∀ (ds : List Nat) (n : Nat), restR R ds n = n / prodL R ds
  | [], n => by simp [restR, prodL]
  | l :: r, n => by rw [restR, restR_div R r n, prodL_cons, Nat.div_div_eq_div_mul, Nat.mul_comm]
/-- The contents that number n says. -/
def conL (R : Dv) : List Nat → Nat → List (List Nat)
  | [], _ => []
  | l :: r, n => wordsL (R.line l) (restR R r n % baseL R l) :: conL R r n
theorem conL_mod (R : Dv) : ∀ (ds : List Nat) (n : Nat), conL R ds (n % prodL R ds) = conL R ds n
  | [], n => rfl
  | l :: r, n => by
    have hp := prodL_pos R r
    have hb : 0 < baseL R l := Nat.succ_pos _
    have e1 : (n % (baseL R l * prodL R r)) % prodL R r = n % prodL R r := Nat.mod_mod_of_dvd n (Nat.dvd_mul_left _ _)
    have e2 : (n % (baseL R l * prodL R r)) / prodL R r = n / prodL R r % baseL R l := by
      rw [Nat.mul_comm, Nat.mod_mul_right_div_self]
    unfold conL
    rw [prodL_cons, restR_div, restR_div, e2, Nat.mod_mod, ← conL_mod R r (n % (baseL R l * prodL R r)), e1, conL_mod R r n]
theorem conL_card (R : Dv) : ∀ ds : List Nat, Card ((List.range (prodL R ds)).map (conL R ds)) (prodC R ds)
  | [] => ⟨[[]], by simp, fun x => by simp [prodL, conL], rfl⟩
  | l :: r => by
    have h := (cntL_card (R.line l)).pair (conL_card R r)
    rw [prodL_cons]
    refine h.mem fun x => ?_
    have : ((List.range (((R.line l).hist.length + 1) * prodL R r)).map fun k => wordsL (R.line l) (k / prodL R r) :: conL R r (k % prodL R r)) = (List.range (baseL R l * prodL R r)).map (conL R (l :: r)) := by
      refine List.map_congr_left fun k hk => ?_
      have hk := List.mem_range.1 hk
      have hp := prodL_pos R r
      show _ = wordsL (R.line l) (restR R r k % baseL R l) :: conL R r k
      rw [conL_mod, restR_div, show k / prodL R r % baseL R l = k / prodL R r from Nat.mod_eq_of_lt ((Nat.div_lt_iff_lt_mul (by omega)).2 hk)]
    rw [this]
theorem conL_get (R : Dv) (n : Nat) : ∀ (ds : List Nat) (i : Nat), (conL R ds n)[i]? = ds[i]?.map fun l => wordsL (R.line l) ((digR R ds n).getD i 0)
  | [], i => by simp [conL]
  | l :: r, 0 => by simp [conL, digR]
  | l :: r, i + 1 => by
    have := conL_get R n r i
    simpa [conL, digR] using this
theorem conL_crash (hok : R.Ok T) (n n' : Nat) : conL R (dirtyL R) n = conL R (dirtyL R) n' ↔ crashW R (kOf R (digR R (dirtyL R) n)) = crashW R (kOf R (digR R (dirtyL R) n')) := by
  have hk : ∀ (n i l : Nat), (dirtyL R)[i]? = some l → kOf R (digR R (dirtyL R) n) l = (digR R (dirtyL R) n).getD i 0 := fun n i l h => by
    obtain ⟨h1, h2, h3⟩ := dirty_at h
    have hi := (List.getElem?_eq_some_iff.1 h).1
    unfold kOf
    rw [if_pos h3, h1, if_pos (by rw [digR_len]; exact hi)]
  constructor
  · intro h
    refine crashW_congr _ _ _ fun l hl => ?_
    by_cases hd : 0 < (R.line l).hist.length
    · have hp := dirty_place hl hd
      have h1 := conL_get R n (dirtyL R) (dirtyTo R l).length
      have h2 := conL_get R n' (dirtyL R) (dirtyTo R l).length
      rw [hp] at h1 h2
      rw [h, h2] at h1
      rw [hk _ _ _ hp, hk _ _ _ hp]
      simpa using h1.symm
    · unfold kOf; rw [if_neg hd, if_neg hd]
  · intro h
    apply List.ext_getElem?
    intro i
    rw [conL_get, conL_get]
    rcases hg : (dirtyL R)[i]? with _ | l
    · rfl
    · obtain ⟨h1, h2, h3⟩ := dirty_at hg
      have e1 := crash_line hok (kOf R (digR R (dirtyL R) n)) l h2
      have e2 := crash_line hok (kOf R (digR R (dirtyL R) n')) l h2
      rw [h, e2, hk _ _ _ hg, hk _ _ _ hg] at e1
      exact congrArg some e1.symm
theorem at_card (hok : R.Ok T) : Card ((List.range (prodL R (dirtyL R))).map (atB R)) (prodC R (dirtyL R)) :=
  (conL_card R (dirtyL R)).trade fun a _ b _ => (conL_crash hok a b).trans ⟨fun h => by unfold atB; rw [h], fun h => bytesL_inj (by rw [crashW_len hok, crashW_len hok]) (crashW_lt hok _) (crashW_lt hok _) h⟩
theorem cntL_pos (l : Ln) : 1 ≤ cntL l := by
  obtain ⟨ys, _, h2, h3⟩ := cntL_card l
  have : wordsL l 0 ∈ ys := (h2 _).2 (List.mem_map.2 ⟨0, List.mem_range.2 (by omega), rfl⟩)
  rw [← h3]
  exact List.length_pos_of_mem this
theorem cntL_le (l : Ln) : cntL l ≤ l.hist.length + 1 := by
  obtain ⟨ys, h1, h2, h3⟩ := cntL_card l
  have := nodup_le ys _ h1 (fun x hx => (h2 x).1 hx)
  simp at this
  omega
theorem prodC_le (R : Dv) : ∀ ds : List Nat, prodC R ds ≤ prodL R ds
  | [] => Nat.le_refl _
  | l :: r => by rw [prodC, prodL_cons]; exact Nat.mul_le_mul (cntL_le _) (prodC_le R r)
end Go.Proofs.Ytikjpklbbjmioaa
