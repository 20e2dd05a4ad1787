/- Plain: what Eval reckons, and that bounds are sound and exact. -/
import Derived.Test.YtgnoikfmhncbmaaGreatDoorS4
import Derived.Test.YtgnoikfmhncbmaaGreatDoorW1
set_option linter.unusedVariables false
set_option linter.unusedSimpArgs false
namespace Go.Proofs.YtgnoikfmhncbmaaGreatDoor
open Go.RowKit Go.Lib
/-- The comparison of a test. -/
def cmpT (v x : RV) : Int := if v.ty = 1 then compareInt v.n x.n else if v.ty = 2 then compareBytes v.tx.data.toList x.tx.data.toList else if v.b = x.b then 0 else if v.b then 1 else -1
def opT (op : Nat) (c : Int) : Bool :=
  if op = 4 then decide (c = 0) else if op = 5 then decide (c ≠ 0) else if op = 6 then decide (c < 0) else if op = 7 then decide (c ≤ 0) else if op = 8 then decide (0 < c) else decide (0 ≤ c)
def trI (b : Bool) : Int := if b then 2 else 0
/-- The truth of a comparison. -/
def testP (op : Nat) (x v : RV) : Int := if op = 10 then trI v.nl else if v.nl then 1 else if 1 ≤ v.ty ∧ v.ty ≤ 3 then trI (opT op (cmpT v x)) else 1
/-- The truth of a condition. -/
def evP (R : ByteArray → RV) : AT → Int
  | .nil => 0
  | .node _ op c x l r => if op = 1 then min (evP R l) (evP R r) else if op = 2 then max (evP R l) (evP R r) else if op = 3 then 2 - evP R l else testP op x (R c)
theorem trI_range (b : Bool) : trI b = 0 ∨ trI b = 1 ∨ trI b = 2 := by cases b <;> simp [trI]
theorem testP_range (op : Nat) (x v : RV) : testP op x v = 0 ∨ testP op x v = 1 ∨ testP op x v = 2 := by
  unfold testP
  split
  · exact trI_range _
  · split
    · exact .inr (.inl rfl)
    · split
      · exact trI_range _
      · exact .inr (.inl rfl)
theorem evP_range (R : ByteArray → RV) : ∀ t : AT, 0 ≤ evP R t ∧ evP R t ≤ 2
  | .nil => by simp [evP]
  | .node _ op c x l r => by
    have h1 := evP_range R l
    have h2 := evP_range R r
    have h3 := testP_range op x (R c)
    unfold evP
    split
    · omega
    · split
      · omega
      · split <;> omega
/-- Each part is without an error. -/
def wfP (cs : List CV) : AT → Prop
  | .nil => True
  | .node b op c x l r => nodeP cs (.node b op c x l r) = 0 ∧ ((op = 1 ∨ op = 2 ∨ op = 3) → wfP cs l) ∧ ((op = 1 ∨ op = 2) → wfP cs r)
theorem errL_zero (cs : List CV) : ∀ {l : List AT}, errL cs l = 0 → ∀ t ∈ l, nodeP cs t = 0
  | [], _, t, ht => by cases ht
  | a :: l, h, t, ht => by
    unfold errL at h
    split at h
    · rename_i h0
      rcases List.mem_cons.1 ht with rfl | ht
      · exact h0
      · exact errL_zero cs h t ht
    · rename_i h0; exact absurd h h0
theorem wf_pre (cs : List CV) : ∀ {t : AT}, (∀ x ∈ preO t, nodeP cs x = 0) → wfP cs t
  | .nil, _ => trivial
  | .node b op c x l r, h => by
    rw [preO] at h
    have h0 := h _ (List.mem_cons_self ..)
    refine ⟨h0, fun hop => ?_, fun hop => ?_⟩
    · cases hl : l.nil?
      · refine wf_pre cs (fun y hy => h y (List.mem_cons_of_mem _ (List.mem_append.2 (.inl ?_))))
        rw [if_pos ⟨hop, hl⟩]; exact hy
      · cases l with
        | nil => trivial
        | node _ _ _ _ _ _ => cases hl
    · cases hl : r.nil?
      · refine wf_pre cs (fun y hy => h y (List.mem_cons_of_mem _ (List.mem_append.2 (.inr ?_))))
        rw [if_pos ⟨hop, hl⟩]; exact hy
      · cases r with
        | nil => trivial
        | node _ _ _ _ _ _ => cases hl
theorem wf_check {cs : List CV} {t : AT} (h : checkP cs t = 0) : wfP cs t := wf_pre cs (errL_zero cs h)
theorem isNil_q (t : AT) : t.isNil = t.nil? := by cases t <;> rfl
theorem nodeP_eq (cs : List CV) (b op : Nat) (cc : ByteArray) (v : RV) (l r : AT) : nodeP cs (.node b op cc v l r) =
    (if op = 1 ∨ op = 2 then (if l.nil? = true ∨ r.nil? = true then 1 else 0)
    else if op = 3 then (if l.nil? = true then 1 else 0)
    else if 4 ≤ op ∧ op ≤ 10 then (match kindP cs cc with
      | none => 15
      | some k => if op ≠ 10 ∧ (v.nl = true ∨ v.ty ≠ k) then 16 else 0)
    else 1) := rfl
theorem node_pair {cs : List CV} {b op : Nat} {c : ByteArray} {x : RV} {l r : AT} (h : nodeP cs (.node b op c x l r) = 0) (ho : op = 1 ∨ op = 2) : l.nil? = false ∧ r.nil? = false := by
  rw [nodeP_eq] at h
  rw [if_pos ho] at h
  split at h
  · cases h
  · rename_i g
    cases h1 : l.nil? <;> cases h2 : r.nil? <;> simp_all
theorem node_not {cs : List CV} {b op : Nat} {c : ByteArray} {x : RV} {l r : AT} (h : nodeP cs (.node b op c x l r) = 0) : 1 ≤ op ∧ op ≤ 10 := by
  rw [nodeP_eq] at h
  split at h
  · omega
  · split at h
    · omega
    · split at h
      · omega
      · cases h
theorem node_leaf {cs : List CV} {b op k : Nat} {c : ByteArray} {x : RV} {l r : AT} (h : nodeP cs (.node b op c x l r) = 0) (ho : 4 ≤ op ∧ op ≤ 9) (hk : kindP cs c = some k) : x.nl = false ∧ x.ty = k := by
  rw [nodeP_eq] at h
  rw [if_neg (by omega), if_neg (by omega), if_pos (by omega), hk] at h
  simp only at h
  split at h
  · cases h
  · rename_i g
    have : ¬ (x.nl = true ∨ x.ty ≠ k) := fun e => g ⟨by omega, e⟩
    cases h1 : x.nl
    · exact ⟨rfl, Classical.byContradiction fun e => this (.inr e)⟩
    · exact absurd (.inl h1) this
/-- What a bound says of a value. -/
structure Side (k : Nat) (v : RV) (L H U : RV → Prop) : Prop where
  lL : ∀ x : RV, x.nl = false → x.ty = k → U x → (0 ≤ cmpT v x ↔ L x)
  lH : ∀ x : RV, x.nl = false → x.ty = k → U x → (cmpT v x ≤ 0 ↔ H x)
  uL : ∀ x, L x → U x
  uH : ∀ x, H x → U x
  cE : ∀ a b : RV, cmpE a b = 0 → U a ∧ U b
  mL : ∀ a b : RV, a.nl = false → b.nl = false → a.ty = k → b.ty = k → cmpE a b = 0 → (cmpX a b ≤ 0 → L b → L a) ∧ (0 ≤ cmpX a b → L a → L b)
  mH : ∀ a b : RV, a.nl = false → b.nl = false → a.ty = k → b.ty = k → cmpE a b = 0 → (0 ≤ cmpX a b → H b → H a) ∧ (cmpX a b ≤ 0 → H a → H b)
/-- A bound is none, or of the type. -/
def TyB (k : Nat) (x : RV) : Prop := x.nl = true ∨ (x.nl = false ∧ x.ty = k)
theorem TyB.of {k : Nat} {x : RV} (h : TyB k x) (hn : x.nl = false) : x.ty = k := by
  rcases h with h | h
  · rw [hn] at h; cases h
  · exact h.2
theorem TyB.ite {k : Nat} {c : Prop} [Decidable c] {a b : RV} (ha : TyB k a) (hb : TyB k b) : TyB k (if c then a else b) := by split <;> assumption
theorem TyB.none (k : Nat) : TyB k RVN := .inl rfl
theorem simp_ty {op k : Nat} {c col : ByteArray} {x : RV} (hx : c = col → 4 ≤ op → op ≤ 9 → x.nl = false ∧ x.ty = k) : TyB k (simpP op c col x).lo ∧ TyB k (simpP op c col x).hi := by
  have hn := TyB.none k
  unfold simpP
  split
  · exact ⟨hn, hn⟩
  · rename_i h
    have hc : c = col := Classical.byContradiction fun e => h (.inl e)
    have hv : 4 ≤ op → op ≤ 9 → TyB k x := fun h1 h2 => .inr (hx hc h1 h2)
    split
    · exact ⟨hv (by omega) (by omega), hv (by omega) (by omega)⟩
    · split
      · exact ⟨hn, hv (by omega) (by omega)⟩
      · split
        · exact ⟨hn, hv (by omega) (by omega)⟩
        · split
          · exact ⟨hv (by omega) (by omega), hn⟩
          · split
            · exact ⟨hv (by omega) (by omega), hn⟩
            · exact ⟨hn, hn⟩
theorem bnd_ty {cs : List CV} {col : ByteArray} {k : Nat} (hk : kindP cs col = some k) : ∀ {t : AT}, wfP cs t → TyB k (bndP col t).lo ∧ TyB k (bndP col t).hi
  | .nil, _ => ⟨TyB.none k, TyB.none k⟩
  | .node b op c x l r, ⟨h0, h1, h2⟩ => by
    have hn := TyB.none k
    unfold bndP
    split
    · rename_i hp
      have hop : op = 1 ∨ op = 2 := by
        unfold pairB at hp
        simp only [Bool.and_eq_true, Bool.or_eq_true, decide_eq_true_eq] at hp
        exact hp.1.1
      have gl := bnd_ty hk (h1 (by omega))
      have gr := bnd_ty hk (h2 hop)
      split
      · unfold bothP lowA highA
        exact ⟨.ite gl.1 (.ite gr.1 (.ite gl.1 (.ite gr.1 gl.1))), .ite gl.2 (.ite gr.2 (.ite gl.2 (.ite gr.2 gl.2)))⟩
      · unfold eitherP lowO highO
        exact ⟨.ite hn (.ite (.ite gr.1 gl.1) hn), .ite hn (.ite (.ite gr.2 gl.2) hn)⟩
    · exact simp_ty (fun hc g1 g2 => node_leaf h0 ⟨g1, g2⟩ (hc ▸ hk))
theorem opT_4 {c : Int} : opT 4 c = true ↔ c = 0 := by simp [opT]
theorem trI_two {b : Bool} : trI b = 2 ↔ b = true := by cases b <;> simp [trI]
theorem testP_two {op : Nat} {x v : RV} (ho : op ≠ 10) (h : testP op x v = 2) : v.nl = false ∧ (1 ≤ v.ty ∧ v.ty ≤ 3) ∧ opT op (cmpT v x) = true := by
  unfold testP at h
  rw [if_neg ho] at h
  cases hn : v.nl
  · rw [hn] at h
    simp only [Bool.false_eq_true, if_false] at h
    split at h
    · rename_i g; exact ⟨rfl, g, trI_two.1 h⟩
    · cases h
  · rw [hn] at h; simp at h
theorem testP_is {op : Nat} {x v : RV} (ho : op ≠ 10) (hn : v.nl = false) (ht : 1 ≤ v.ty ∧ v.ty ≤ 3) (h : opT op (cmpT v x) = true) : testP op x v = 2 := by
  unfold testP
  rw [if_neg ho, hn, if_neg (by simp), if_pos ht, h]; rfl
/-- One side of a bound: none, or the value is not null, and where the bound is usable it holds. -/
def SdB (v : RV) (L U : RV → Prop) (x : RV) : Prop := x.nl = true ∨ (v.nl = false ∧ (U x → L x))
theorem SdB.none (v : RV) (L U : RV → Prop) : SdB v L U RVN := .inl rfl
theorem low_and {k : Nat} {v : RV} {L H U : RV → Prop} (a b : RV) (ha : SdB v L U a) (hb : SdB v L U b) : SdB v L U (lowA a b) ∧ SdB v L U (highA a b) := by
  unfold lowA highA
  constructor <;> (repeat' split) <;> assumption
theorem low_or {k : Nat} {v : RV} {L H U : RV → Prop} (S : Side k v L H U) (a b : RV) (ta : TyB k a) (tb : TyB k b) (h : SdB v L U a ∨ SdB v L U b) : SdB v L U (lowO a b) := by
  unfold lowO
  cases h1 : a.nl
  · cases h2 : b.nl
    · simp only [Bool.or_self, Bool.false_eq_true, if_false]
      split
      · rename_i he
        obtain ⟨ua, ub⟩ := S.cE a b he
        have hm := S.mL a b h1 h2 (ta.of h1) (tb.of h2) he
        have hv : v.nl = false := by
          rcases h with h | h
          · rcases h with h | h
            · rw [h1] at h; cases h
            · exact h.1
          · rcases h with h | h
            · rw [h2] at h; cases h
            · exact h.1
        refine .inr ⟨hv, fun _ => ?_⟩
        have hl : L a ∨ L b := by
          rcases h with h | h
          · rcases h with h | h
            · rw [h1] at h; cases h
            · exact .inl (h.2 ua)
          · rcases h with h | h
            · rw [h2] at h; cases h
            · exact .inr (h.2 ub)
        split
        · rename_i g
          rcases hl with hl | hl
          · exact hm.2 (by omega) hl
          · exact hl
        · rename_i g
          rcases hl with hl | hl
          · exact hl
          · exact hm.1 (by omega) hl
      · exact .inl rfl
    · simp only [Bool.or_true, if_true]; exact .inl rfl
  · simp only [Bool.true_or, if_true]; exact .inl rfl
theorem high_or {k : Nat} {v : RV} {L H U : RV → Prop} (S : Side k v L H U) (a b : RV) (ta : TyB k a) (tb : TyB k b) (h : SdB v H U a ∨ SdB v H U b) : SdB v H U (highO a b) := by
  unfold highO
  cases h1 : a.nl
  · cases h2 : b.nl
    · simp only [Bool.or_self, Bool.false_eq_true, if_false]
      split
      · rename_i he
        obtain ⟨ua, ub⟩ := S.cE a b he
        have hm := S.mH a b h1 h2 (ta.of h1) (tb.of h2) he
        have hv : v.nl = false := by
          rcases h with h | h
          · rcases h with h | h
            · rw [h1] at h; cases h
            · exact h.1
          · rcases h with h | h
            · rw [h2] at h; cases h
            · exact h.1
        refine .inr ⟨hv, fun _ => ?_⟩
        have hl : H a ∨ H b := by
          rcases h with h | h
          · rcases h with h | h
            · rw [h1] at h; cases h
            · exact .inl (h.2 ua)
          · rcases h with h | h
            · rw [h2] at h; cases h
            · exact .inr (h.2 ub)
        split
        · rename_i g
          rcases hl with hl | hl
          · exact hm.2 (by omega) hl
          · exact hl
        · rename_i g
          rcases hl with hl | hl
          · exact hl
          · exact hm.1 (by omega) hl
      · exact .inl rfl
    · simp only [Bool.or_true, if_true]; exact .inl rfl
  · simp only [Bool.true_or, if_true]; exact .inl rfl
theorem simp_sound {op k : Nat} {c : ByteArray} {x v : RV} {L H U : RV → Prop} (S : Side k v L H U) (hx : 4 ≤ op → op ≤ 9 → x.nl = false ∧ x.ty = k) (h : testP op x v = 2) :
    SdB v L U (simpP op c c x).lo ∧ SdB v H U (simpP op c c x).hi := by
  have nL := SdB.none v L U
  have nH := SdB.none v H U
  unfold simpP
  split
  · exact ⟨nL, nH⟩
  · split
    · rename_i _ e; subst e
      obtain ⟨h1, h2, h3⟩ := testP_two (by omega) h
      obtain ⟨x1, x2⟩ := hx (by omega) (by omega)
      have := opT_4.1 h3
      exact ⟨.inr ⟨h1, fun u => (S.lL x x1 x2 u).1 (by omega)⟩, .inr ⟨h1, fun u => (S.lH x x1 x2 u).1 (by omega)⟩⟩
    · split
      · rename_i _ e; subst e
        obtain ⟨h1, h2, h3⟩ := testP_two (by omega) h
        obtain ⟨x1, x2⟩ := hx (by omega) (by omega)
        have : cmpT v x ≤ 0 := by simpa [opT] using h3
        exact ⟨nL, .inr ⟨h1, fun u => (S.lH x x1 x2 u).1 (by omega)⟩⟩
      · split
        · rename_i _ e; subst e
          obtain ⟨h1, h2, h3⟩ := testP_two (by omega) h
          obtain ⟨x1, x2⟩ := hx (by omega) (by omega)
          have : cmpT v x < 0 := by simpa [opT] using h3
          exact ⟨nL, .inr ⟨h1, fun u => (S.lH x x1 x2 u).1 (by omega)⟩⟩
        · split
          · rename_i _ e; subst e
            obtain ⟨h1, h2, h3⟩ := testP_two (by omega) h
            obtain ⟨x1, x2⟩ := hx (by omega) (by omega)
            have : 0 ≤ cmpT v x := by simpa [opT] using h3
            exact ⟨.inr ⟨h1, fun u => (S.lL x x1 x2 u).1 (by omega)⟩, nH⟩
          · split
            · rename_i _ e; subst e
              obtain ⟨h1, h2, h3⟩ := testP_two (by omega) h
              obtain ⟨x1, x2⟩ := hx (by omega) (by omega)
              have : 0 < cmpT v x := by simpa [opT] using h3
              exact ⟨.inr ⟨h1, fun u => (S.lL x x1 x2 u).1 (by omega)⟩, nH⟩
            · exact ⟨nL, nH⟩
theorem simp_other {op : Nat} {c col : ByteArray} {x : RV} (h : c ≠ col) : simpP op c col x = spN false := by
  unfold simpP; rw [if_pos (.inl h)]
theorem pair_op {op : Nat} {l r : AT} (hp : pairB op l r = true) : op = 1 ∨ op = 2 := by
  unfold pairB at hp
  simp only [Bool.and_eq_true, Bool.or_eq_true, decide_eq_true_eq] at hp
  exact hp.1.1
theorem pair_not {cs : List CV} {b op : Nat} {c : ByteArray} {x : RV} {l r : AT} (h : nodeP cs (.node b op c x l r) = 0) (hp : ¬ pairB op l r = true) : ¬ (op = 1 ∨ op = 2) := fun ho => by
  obtain ⟨h1, h2⟩ := node_pair h ho
  apply hp
  unfold pairB
  rw [isNil_q, isNil_q, h1, h2]
  rcases ho with rfl | rfl <;> rfl
/-- A condition that is true has the value between its bounds. -/
theorem sound {cs : List CV} {col : ByteArray} {k : Nat} (hk : kindP cs col = some k) (R : ByteArray → RV) {L H U : RV → Prop} (S : Side k (R col) L H U) :
    ∀ {t : AT}, wfP cs t → evP R t = 2 → SdB (R col) L U (bndP col t).lo ∧ SdB (R col) H U (bndP col t).hi
  | .nil, _, h => by cases h
  | .node b op c x l r, ⟨h0, h1, h2⟩, h => by
    unfold bndP
    split
    · rename_i hp
      have hop := pair_op hp
      have tl := bnd_ty hk (h1 (by omega))
      have tr := bnd_ty hk (h2 hop)
      have rl := evP_range R l
      have rr := evP_range R r
      rcases hop with rfl | rfl
      · rw [if_pos rfl]
        have e : evP R l = 2 ∧ evP R r = 2 := by
          unfold evP at h; rw [if_pos rfl] at h; omega
        have gl := sound hk R S (h1 (by omega)) e.1
        have gr := sound hk R S (h2 (by omega)) e.2
        exact ⟨(low_and (k := k) (H := H) _ _ gl.1 gr.1).1, (low_and (k := k) (H := L) _ _ gl.2 gr.2).2⟩
      · rw [if_neg (by decide)]
        have e : evP R l = 2 ∨ evP R r = 2 := by
          unfold evP at h; rw [if_neg (by decide), if_pos rfl] at h; omega
        rcases e with e | e
        · have g := sound hk R S (h1 (by omega)) e
          exact ⟨low_or S _ _ tl.1 tr.1 (.inl g.1), high_or S _ _ tl.2 tr.2 (.inl g.2)⟩
        · have g := sound hk R S (h2 (by omega)) e
          exact ⟨low_or S _ _ tl.1 tr.1 (.inr g.1), high_or S _ _ tl.2 tr.2 (.inr g.2)⟩
    · rename_i hp
      have hop := pair_not h0 hp
      by_cases hc : c = col
      · subst hc
        by_cases h3 : op = 3
        · subst h3
          have : simpP 3 c c x = spN false := by unfold simpP; split <;> rfl
          rw [this]
          exact ⟨SdB.none _ _ _, SdB.none _ _ _⟩
        · have hr := node_not h0
          unfold evP at h
          rw [if_neg (by omega), if_neg (by omega), if_neg h3] at h
          exact simp_sound S (fun g1 g2 => node_leaf h0 ⟨g1, g2⟩ hk) h
      · rw [simp_other hc]
        exact ⟨SdB.none _ _ _, SdB.none _ _ _⟩
theorem compareInt_nonneg {a b : Int} : 0 ≤ compareInt a b ↔ b ≤ a := by unfold compareInt; (repeat' split) <;> omega
theorem compareInt_nonpos {a b : Int} : compareInt a b ≤ 0 ↔ a ≤ b := by unfold compareInt; (repeat' split) <;> omega
theorem cmpV_T {a b : RV} (ha : formP a = 0) (hb : formP b = 0) (ht : a.ty = b.ty) (na : a.nl = false) (nb : b.nl = false) : cmpV a b = cmpT a b := by
  obtain ⟨a0, a1, a2, a3, a4, _, _⟩ := form_parts ha
  obtain ⟨b0, b1, b2, b3, b4, _, _⟩ := form_parts hb
  obtain ⟨ta, na', ia, xa, ba⟩ := a
  obtain ⟨tb, nb', ib, xb, bb⟩ := b
  simp only at *
  subst ht na nb
  unfold cmpV cmpT
  simp only
  obtain rfl | rfl | rfl : ta = 1 ∨ ta = 2 ∨ ta = 3 := by omega
  · obtain rfl := a2 (.inl (by omega))
    obtain rfl := b2 (.inl (by omega))
    obtain rfl := a3 (.inl (by omega))
    obtain rfl := b3 (.inl (by omega))
    have e0 : compareInt (b2i false) (b2i false) = 0 := by decide
    rw [e0, cb_self]
    simp only [ne_eq, not_true_eq_false, if_false, if_true]
    split
    · rfl
    · rename_i h; exact (Classical.not_not.1 h).symm
  · obtain rfl := a1 (.inl (by omega))
    obtain rfl := b1 (.inl (by omega))
    obtain rfl := a3 (.inl (by omega))
    obtain rfl := b3 (.inl (by omega))
    have e0 : compareInt (b2i false) (b2i false) = 0 := by decide
    have e1 : compareInt 0 0 = 0 := by decide
    rw [e0, e1]
    simp
  · obtain rfl := a1 (.inl (by omega))
    obtain rfl := b1 (.inl (by omega))
    obtain rfl := a2 (.inl (by omega))
    obtain rfl := b2 (.inl (by omega))
    rw [cb_self]
    cases ba <;> cases bb <;> rfl
/-- The bounds as within asks for them. -/
theorem side_val {v : RV} (hv : formP v = 0) (hn : v.nl = false) : Side v.ty v (fun x => cmpE x v = 0 ∧ cmpX x v ≤ 0) (fun x => cmpE v x = 0 ∧ cmpX v x ≤ 0) (fun x => formP x = 0) where
  lL := fun x h1 h2 h3 => by
    obtain ⟨e1, e2⟩ := cmpE_ok h3 hv h2
    rw [e1, e2, cmp_neg hv h3 h2.symm, cmpV_T hv h3 h2.symm hn h1]
    constructor
    · intro h; exact ⟨rfl, by omega⟩
    · intro h; omega
  lH := fun x h1 h2 h3 => by
    obtain ⟨e1, e2⟩ := cmpE_ok hv h3 h2.symm
    rw [e1, e2, cmpV_T hv h3 h2.symm hn h1]
    constructor
    · intro h; exact ⟨rfl, h⟩
    · intro h; exact h.2
  uL := fun x h => (cmpE_zero h.1).2.1
  uH := fun x h => (cmpE_zero h.1).2.2.1
  cE := fun a b h => ⟨(cmpE_zero h).2.1, (cmpE_zero h).2.2.1⟩
  mL := fun a b _ _ _ _ h => by
    obtain ⟨_, fa, fb, tt⟩ := cmpE_zero h
    obtain ⟨e1, e2⟩ := cmpE_ok fb fa tt.symm
    obtain ⟨_, e3⟩ := cmpE_ok fa fb tt
    refine ⟨fun hx hl => ?_, fun hx hl => ?_⟩
    · obtain ⟨g1, _, _, g2, _⟩ := order_law h hl.1
      exact ⟨g1, by have := hl.2; omega⟩
    · have hx' : cmpX b a ≤ 0 := by rw [e2, cmp_neg fa fb tt, ← e3]; omega
      obtain ⟨g1, _, _, g2, _⟩ := order_law e1 hl.1
      exact ⟨g1, by have := hl.2; omega⟩
  mH := fun a b _ _ _ _ h => by
    obtain ⟨_, fa, fb, tt⟩ := cmpE_zero h
    obtain ⟨e1, e2⟩ := cmpE_ok fb fa tt.symm
    obtain ⟨_, e3⟩ := cmpE_ok fa fb tt
    refine ⟨fun hx hl => ?_, fun hx hl => ?_⟩
    · have hx' : cmpX b a ≤ 0 := by rw [e2, cmp_neg fa fb tt, ← e3]; omega
      obtain ⟨g1, _, _, g2, _⟩ := order_law hl.1 e1
      exact ⟨g1, by have := hl.2; omega⟩
    · obtain ⟨g1, _, _, g2, _⟩ := order_law hl.1 h
      exact ⟨g1, by have := hl.2; omega⟩
/-- The bounds of ids. -/
theorem side_id (n : Int) : Side 1 ⟨1, false, n, ByteArray.empty, false⟩ (fun x => x.n ≤ n) (fun x => n ≤ x.n) (fun _ => True) where
  lL := fun x _ _ _ => by unfold cmpT; exact compareInt_nonneg
  lH := fun x _ _ _ => by unfold cmpT; exact compareInt_nonpos
  uL := fun _ _ => trivial
  uH := fun _ _ => trivial
  cE := fun _ _ _ => ⟨trivial, trivial⟩
  mL := fun a b na nb ta tb h => by
    obtain ⟨_, fa, fb, tt⟩ := cmpE_zero h
    obtain ⟨_, e3⟩ := cmpE_ok fa fb tt
    rw [e3, cmpV_T fa fb tt na nb]
    unfold cmpT
    rw [if_pos ta, compareInt_nonneg, compareInt_nonpos]
    exact ⟨fun _ _ => by omega, fun _ _ => by omega⟩
  mH := fun a b na nb ta tb h => by
    obtain ⟨_, fa, fb, tt⟩ := cmpE_zero h
    obtain ⟨_, e3⟩ := cmpE_ok fa fb tt
    rw [e3, cmpV_T fa fb tt na nb]
    unfold cmpT
    rw [if_pos ta, compareInt_nonneg, compareInt_nonpos]
    exact ⟨fun _ _ => by omega, fun _ _ => by omega⟩
end Go.Proofs.YtgnoikfmhncbmaaGreatDoor
