/- Drawn regions whose steps that change the world are in no one order: the classes of worlds hang on which of these steps are done. After QR. -/
import Derived.Test.YtjmdibgncaljaaaQRI
namespace Go.Proofs.Ytjmdibgncaljaaa
open Go
section
variable {P : Program} {ops : Array Oper} {md : Region.Mode} {C : (Nat → Option Value) → World → Prop} {rk : Nat → Option Nat} {pre nd : Nat → List Nat} {m : Nat} {Hf : Nat → Value}
/-- What is done agrees with the values. -/
def subP (H : Nat → Option Value) (Hf : Nat → Value) : Prop := ∀ s v, H s = some v → Hf s = v
def setP (H : Nat → Option Value) (s : Nat) (v : Value) : Nat → Option Value := fun k => if k = s then some v else H k
def fullP (m : Nat) (Hf : Nat → Value) : Nat → Option Value := fun k => if k < m then some (Hf k) else none
def EP (P : Program) (C : (Nat → Option Value) → World → Prop) (rk : Nat → Option Nat) (pre nd : Nat → List Nat) (Hf : Nat → Value) (i : Nat) (o : Oper) (a : Act) (u : Value) : Prop :=
  match rk i with
  | none => ∀ H w, subP H Hf → (∀ p ∈ nd i, (H p).isSome = true) → C H w → pureUpon w u ((execOp a.eval o).run P w)
  | some s => u = Hf s ∧ ∀ H w, subP H Hf → H s = none → (∀ p ∈ pre s, (H p).isSome = true) → C H w → callUpon P w (fun v w'' => C (setP H s v) w'') ((execOp a.eval o).run P w)
theorem EP_same {i : Nat} {o : Oper} {a a' : Act} {u : Value} (he : execOp a'.eval o = execOp a.eval o) (h : EP P C rk pre nd Hf i o a u) : EP P C rk pre nd Hf i o a' u := by
  unfold EP at *; rw [he]; exact h
def qOpP (P : Program) (ops : Array Oper) (C : (Nat → Option Value) → World → Prop) (rk : Nat → Option Nat) (pre nd : Nat → List Nat) (Hf : Nat → Value) (i : Nat) (K : Act → Prop) (a : Act) : Prop :=
  match ops[i]? with
  | none => K a
  | some o => if Region.wanted o (yielded ops a.tmps) then ∃ u, EP P C rk pre nd Hf i o a u ∧ K (a.put o.dst u) else rk i = none ∧ K (a.put o.dst undef)
theorem qOpP_mono {i : Nat} {a : Act} {K K' : Act → Prop} (h : ∀ a, K a → K' a) (hh : qOpP P ops C rk pre nd Hf i K a) : qOpP P ops C rk pre nd Hf i K' a := by
  unfold qOpP at *
  split
  · exact h _ (by simpa [*] using hh)
  · rename_i o ho
    simp only [ho] at hh
    split
    · rename_i hw; simp only [hw, if_true] at hh; obtain ⟨u, h1, h2⟩ := hh; exact ⟨u, h1, h _ h2⟩
    · rename_i hw; simp only [hw] at hh; exact ⟨hh.1, h _ hh.2⟩
def wpAnyP (P : Program) (md : Region.Mode) (ops : Array Oper) (C : (Nat → Option Value) → World → Prop) (rk : Nat → Option Nat) (pre nd : Nat → List Nat) (Hf : Nat → Value) (Q : Act → Prop) : Nat → Array Bool → Act → Prop
  | 0, listed, a => Region.ready md ops listed = [] ∧ allDone rk listed ∧ Q a
  | fuel + 1, listed, a =>
    (Region.ready md ops listed = [] → allDone rk listed ∧ Q a) ∧
    ∀ i ∈ Region.ready md ops listed, qOpP P ops C rk pre nd Hf i (wpAnyP P md ops C rk pre nd Hf Q fuel (listed.setIfInBounds i true)) a
def YP (P : Program) (ops : Array Oper) (C : (Nat → Option Value) → World → Prop) (rk : Nat → Option Nat) (pre nd : Nat → List Nat) (Hf : Nat → Value) (i : Nat) (o : Oper) (v : Value) (a : Act) : Prop :=
  (Region.wanted o (yielded ops a.tmps) = true ∧ EP P C rk pre nd Hf i o a v) ∨ (Region.wanted o (yielded ops a.tmps) = false ∧ v = undef ∧ rk i = none)
theorem YP.qOp {i : Nat} {o : Oper} {v : Value} {a : Act} (hi : ops[i]? = some o) (hy : YP P ops C rk pre nd Hf i o v a) {K : Act → Prop} (h : K (a.put o.dst v)) : qOpP P ops C rk pre nd Hf i K a := by
  unfold qOpP
  simp only [hi]
  rcases hy with ⟨hw, hv⟩ | ⟨hw, rfl, hr⟩
  · simp only [hw, if_true]; exact ⟨v, hv, h⟩
  · simp only [hw, Bool.false_eq_true, if_false]; exact ⟨hr, h⟩
theorem YP.of_same {i : Nat} {o : Oper} {v : Value} {a a' : Act} (hy : YP P ops C rk pre nd Hf i o v a) (he : execOp a'.eval o = execOp a.eval o)
    (hw : Region.wanted o (yielded ops a'.tmps) = Region.wanted o (yielded ops a.tmps)) : YP P ops C rk pre nd Hf i o v a' := by
  unfold YP at *
  rw [hw]
  rcases hy with ⟨h1, h2⟩ | h
  · exact .inl ⟨h1, EP_same he h2⟩
  · exact .inr h
theorem yp_of_qOpP {i : Nat} {o : Oper} {a : Act} {K : Act → Prop} (hi : ops[i]? = some o) (h : qOpP P ops C rk pre nd Hf i K a) : ∃ v, YP P ops C rk pre nd Hf i o v a ∧ K (a.put o.dst v) := by
  unfold qOpP at h
  simp only [hi] at h
  by_cases hw : Region.wanted o (yielded ops a.tmps) = true
  · simp only [hw, if_true] at h
    obtain ⟨v, h1, h2⟩ := h
    exact ⟨v, .inl ⟨hw, h1⟩, h2⟩
  · simp only [hw] at h
    exact ⟨undef, .inr ⟨by simpa using hw, rfl, h.1⟩, h.2⟩
theorem qOpP_put {i j : Nat} {oi oj : Oper} {v : Value} (hj : ops[j]? = some oj) (hap : oi.apart ops oj = true)
    (hsi : ∀ cs b, oi.op ≠ .select cs b) (hsj : ∀ cs b, oj.op ≠ .select cs b) {K : Act → Prop} {a : Act}
    (hy : YP P ops C rk pre nd Hf i oi v a) (h : qOpP P ops C rk pre nd Hf j K (a.put oi.dst v)) :
    qOpP P ops C rk pre nd Hf j (fun a' => YP P ops C rk pre nd Hf i oi v a' ∧ K (a'.put oi.dst v)) a := by
  obtain ⟨h1, h2, h3⟩ := Oper.apart_spec hap
  have keep : ∀ (a : Act), YP P ops C rk pre nd Hf i oi v a → ∀ u, YP P ops C rk pre nd Hf i oi v (a.put oj.dst u) := fun a hy u =>
    hy.of_same (execOp_put oi hsi a oj.dst u h3) (wanted_put oi a oj.dst u h3)
  unfold qOpP at *
  simp only [hj] at *
  rw [wanted_put oj a oi.dst v h1] at h
  split
  · rename_i hw
    simp only [hw, if_true] at h
    obtain ⟨u, hu, hn⟩ := h
    exact ⟨u, EP_same (execOp_put oj hsj a oi.dst v h1).symm hu, keep a hy u, by rw [← Act.put_comm a v u h2]; exact hn⟩
  · rename_i hw
    simp only [hw] at h
    exact ⟨h.1, keep a hy _, by rw [← Act.put_comm a v undef h2]; exact h.2⟩
theorem wpAnyP_first {Q : Act → Prop} {i : Nat} {oi : Oper} {v : Value} (hi : ops[i]? = some oi) (hsel : ∀ (j : Nat) (o : Oper) cs b, ops[j]? = some o → o.op ≠ .select cs b) :
    ∀ (fuel : Nat) (listed : Array Bool) (a : Act),
      (∀ j oj, ops[j]? = some oj → j ≠ i → listed.getD j true = false → (∀ e ∈ oj.after, Region.binds md e = true → e.on ≠ i) → oi.apart ops oj = true) →
      i ∈ Region.ready md ops listed → YP P ops C rk pre nd Hf i oi v a →
      wpAnyP P md ops C rk pre nd Hf Q fuel (listed.setIfInBounds i true) (a.put oi.dst v) → wpAnyP P md ops C rk pre nd Hf Q (fuel + 1) listed a := by
  intro fuel
  induction fuel with
  | zero =>
    intro listed a _ hr hy H
    refine ⟨fun h => (by rw [h] at hr; cases hr), fun j hj => ?_⟩
    by_cases hji : j = i
    · subst hji; exact hy.qOp hi H
    · have := ready_mono hj hji
      rw [H.1] at this
      cases this
  | succ fuel ih =>
    intro listed a hfree hr hy H
    refine ⟨fun h => (by rw [h] at hr; cases hr), fun j hj => ?_⟩
    by_cases hji : j = i
    · subst hji; exact hy.qOp hi H
    · have h1 := H.2 j (ready_mono hj hji)
      obtain ⟨hjun, oj, hoj, hall⟩ := mem_ready.1 hj
      have hnot : ∀ e ∈ oj.after, Region.binds md e = true → e.on ≠ i := fun e he hb heq => by
        have h1 := hall e he hb
        have h0 := (mem_ready.1 hr).1
        rw [heq] at h1
        rcases Nat.lt_or_ge i listed.size with h' | h'
        · simp [h'] at h0 h1; rw [h0] at h1; cases h1
        · simp [Array.getElem?_eq_none h'] at h1
      have h2 := qOpP_put hoj (hfree j oj hoj hji hjun hnot) (fun cs b => hsel i oi cs b hi) (fun cs b => hsel j oj cs b hoj) hy h1
      have hfree' : ∀ k ok, ops[k]? = some ok → k ≠ i → (listed.setIfInBounds j true).getD k true = false →
          (∀ e ∈ ok.after, Region.binds md e = true → e.on ≠ i) → oi.apart ops ok = true := fun k ok hk hki hun hno => by
        refine hfree k ok hk hki ?_ hno
        by_cases hjk : j = k
        · subst hjk; exact hjun
        · rw [getD_set_ne true hjk] at hun; exact hun
      refine qOpP_mono (fun a' h3 => ih (listed.setIfInBounds j true) a' hfree' (ready_mono hr (Ne.symm hji)) h3.1 ?_) h2
      rw [Array.setIfInBounds_comm _ _ hji]
      exact h3.2
/-- The lexical walk. -/
def wpLexP (P : Program) (ops : Array Oper) (C : (Nat → Option Value) → World → Prop) (rk : Nat → Option Nat) (pre nd : Nat → List Nat) (Hf : Nat → Value) (Q : Act → Prop) : Nat → List Oper → Act → Prop
  | _, [], a => Q a
  | k, o :: rest, a => if Region.wanted o (yielded ops a.tmps) then ∃ u, EP P C rk pre nd Hf k o a u ∧ wpLexP P ops C rk pre nd Hf Q (k + 1) rest (a.put o.dst u) else rk k = none ∧ wpLexP P ops C rk pre nd Hf Q (k + 1) rest (a.put o.dst undef)
theorem wpAnyP_lex {Q : Act → Prop} (hs : Region.noSelect ops = true) (hb : ∀ i s, rk i = some s → i < ops.size) : ∀ (l : List Oper) (k : Nat) (listed : Array Bool) (a : Act), (∀ j, l[j]? = ops[k + j]?) →
    (∀ i s, rk i = some s → i < k → listed.getD i true = true) →
    Region.lexFrom md ops l.length k listed = true → wpLexP P ops C rk pre nd Hf Q k l a → wpAnyP P md ops C rk pre nd Hf Q l.length listed a
  | [], k, _, _, hl, hd, hB, h => ⟨by simpa [Region.lexFrom] using hB, fun i s hi => hd i s hi (by
      have h1 := hb i s hi
      have h2 := hl 0
      simp at h2
      omega), h⟩
  | o :: l, k, listed, a, hl, hd, hB, h => by
    have h0 : ops[k]? = some o := by simpa using (hl 0).symm
    simp only [List.length_cons, Region.lexFrom, Bool.and_eq_true] at hB
    obtain ⟨⟨hr, hf⟩, hB'⟩ := hB
    have hst : qOpP P ops C rk pre nd Hf k (wpLexP P ops C rk pre nd Hf Q (k + 1) l) a := by unfold qOpP; simp only [h0]; exact h
    obtain ⟨v, hy, hK⟩ := yp_of_qOpP h0 hst
    refine wpAnyP_first h0 (Region.noSelect_spec hs) l.length listed a (Region.free_spec h0 hf) (by simpa using hr) hy
      (wpAnyP_lex hs hb l (k + 1) _ _ (fun j => by have := hl (j + 1); simpa [Nat.add_assoc, Nat.add_comm 1 j] using this) (fun i s hi hik => ?_) hB' hK)
    by_cases e : i = k
    · subst e; exact getD_set_eq
    · exact getD_set_tt (hd i s hi (by omega))

theorem extendP (hex : ∀ H w, C H w → (∃ s, s < m ∧ H s = none) → ∃ s v w', s < m ∧ H s = none ∧ C (setP H s v) w') : ∀ (H : Nat → Option Value) (w : World), C H w → (∀ s, m ≤ s → H s = none) → ∃ Hf, subP H Hf ∧ ∃ w', C (fullP m Hf) w' := by
  have key : ∀ (n : Nat) (H : Nat → Option Value) (w : World), ((List.range m).filter fun s => (H s).isNone).length = n → C H w → (∀ s, m ≤ s → H s = none) → ∃ Hf, subP H Hf ∧ ∃ w', C (fullP m Hf) w' := by
    intro n
    induction n using Nat.strongRecOn with
    | _ n ih =>
      intro H w hn hC hm
      by_cases h : ∃ s, s < m ∧ H s = none
      · obtain ⟨s, v, w', h1, h2, h3⟩ := hex H w hC h
        have hlt : ((List.range m).filter fun k => (setP H s v k).isNone).length < n := by
          rw [← hn]
          have hsub : ((List.range m).filter fun k => (setP H s v k).isNone) = ((List.range m).filter fun k => (H k).isNone).filter fun k => decide (k ≠ s) := by
            rw [List.filter_filter]
            apply List.filter_congr
            intro k _
            unfold setP
            by_cases e : k = s
            · simp [e]
            · simp [e]
          rw [hsub]
          exact List.length_filter_lt_length_iff_exists.2 ⟨s, List.mem_filter.2 ⟨List.mem_range.2 h1, by rw [h2]; rfl⟩, by simp⟩
        obtain ⟨Hf, g1, g2⟩ := ih _ hlt (setP H s v) w' rfl h3 (fun k hk => by unfold setP; rw [if_neg (by omega)]; exact hm k hk)
        exact ⟨Hf, fun k x hk => g1 k x (by
          unfold setP
          rw [if_neg (fun e => by subst e; rw [h2] at hk; cases hk)]; exact hk), g2⟩
      · have hall : ∀ s, s < m → ∃ v, H s = some v := fun s hs => by
          cases hh : H s with
          | none => exact absurd ⟨s, hs, hh⟩ h
          | some v => exact ⟨v, rfl⟩
        refine ⟨fun s => (H s).getD undef, fun s v hs => by show (H s).getD undef = v; rw [hs]; rfl, w, ?_⟩
        have e : fullP m (fun s => (H s).getD undef) = H := by
          funext s
          unfold fullP
          by_cases hs : s < m
          · obtain ⟨v, hv⟩ := hall s hs
            rw [if_pos hs]; show some ((H s).getD undef) = H s; rw [hv]; rfl
          · rw [if_neg hs, hm s (by omega)]
        rw [e]; exact hC
  exact fun H w hC hm => key _ H w rfl hC hm
theorem wpAny_of_P {Q : (Nat → Value) → Act → Prop} {Q' : Exit → Act → World → Prop} (hex : ∀ H w, C H w → (∃ s, s < m ∧ H s = none) → ∃ s v w', s < m ∧ H s = none ∧ C (setP H s v) w')
    (hinj : ∀ i j s, rk i = some s → rk j = some s → i = j) (hsur : ∀ s, s < m → ∃ i, rk i = some s) (hbd : ∀ i s, rk i = some s → s < m)
    (hpre : ∀ i s o, rk i = some s → ops[i]? = some o → ∀ p ∈ pre s, ∃ j, rk j = some p ∧ ∃ e ∈ o.after, Region.binds md e = true ∧ e.on = j)
    (hsz : ∀ i s, rk i = some s → i < ops.size)
    (hnd : ∀ i o, rk i = none → ops[i]? = some o → ∀ p ∈ nd i, ∃ j, rk j = some p ∧ ∃ e ∈ o.after, Region.binds md e = true ∧ e.on = j)
    (hQ : ∀ Hf a w, C (fullP m Hf) w → Q Hf a → Q' .normal a w) : ∀ (fuel : Nat) (listed : Array Bool) (a : Act) (H : Nat → Option Value) (w : World), listed.size = ops.size → C H w → (∀ s, m ≤ s → H s = none) →
    (∀ i s, rk i = some s → listed.getD i true = (H s).isSome) →
    (∀ Hf, subP H Hf → (∃ w', C (fullP m Hf) w') → wpAnyP P md ops C rk pre nd Hf (Q Hf) fuel listed a) → wpAny P md ops Q' fuel listed a w := by
  have hend : ∀ (listed : Array Bool) (a : Act) (H : Nat → Option Value) (w : World), C H w → (∀ s, m ≤ s → H s = none) → (∀ i s, rk i = some s → listed.getD i true = (H s).isSome) → ∀ Hf, subP H Hf → allDone rk listed → Q Hf a → Q' .normal a w := fun listed a H w hC hm hinv Hf ht hd hq => by
    have e : H = fullP m Hf := by
      funext s
      unfold fullP
      by_cases hs : s < m
      · rw [if_pos hs]
        obtain ⟨i, hi⟩ := hsur s hs
        have h1 := hinv i s hi
        rw [hd i s hi] at h1
        obtain ⟨v, hv⟩ := Option.isSome_iff_exists.1 h1.symm
        rw [hv, ht s v hv]
      · rw [if_neg hs]; exact hm s (by omega)
    rw [e] at hC
    exact hQ Hf a w hC hq
  intro fuel
  induction fuel with
  | zero =>
    intro listed a H w _ hC hm hinv hall
    obtain ⟨Hf, h2, h3⟩ := extendP hex H w hC hm
    have h4 := hall Hf h2 h3
    exact ⟨h4.1, hend listed a H w hC hm hinv Hf h2 h4.2.1 h4.2.2⟩
  | succ fuel ih =>
    intro listed a H w hls hC hm hinv hall
    obtain ⟨Hf, h2, h3⟩ := extendP hex H w hC hm
    have h4 := hall Hf h2 h3
    refine ⟨fun hr => hend listed a H w hC hm hinv Hf h2 (h4.1 hr).1 (h4.1 hr).2, fun i hi => ?_⟩
    have h5 := h4.2 i hi
    obtain ⟨hun, o, ho, hedge⟩ := mem_ready.1 hi
    unfold qOpP at h5
    simp only [ho] at h5
    unfold wpOp
    simp only [ho]
    have hls' : (listed.setIfInBounds i true).size = ops.size := by simpa using hls
    have hreach : ∀ j s e, rk j = some s → e ∈ o.after → Region.binds md e = true → e.on = j → (H s).isSome = true := fun j s e hj he1 he2 he3 => by
      have h6 := hedge e he1 he2
      rw [he3] at h6
      have h7 := hinv j s hj
      have h8 : listed.getD j true = true := by
        have hjs : j < listed.size := by rw [hls]; exact hsz j s hj
        simp [hjs] at h6 ⊢; exact h6
      rw [← h7, h8]
    cases hrk : rk i with
    | none =>
      have hlH : ∀ p ∈ nd i, (H p).isSome = true := fun p hp => by
        obtain ⟨j, hj, e, he1, he2, he3⟩ := hnd i o hrk ho p hp
        exact hreach j p e hj he1 he2 he3
      have hinv' : ∀ j s, rk j = some s → (listed.setIfInBounds i true).getD j true = (H s).isSome := fun j s hj => by
        rw [getD_set_ne true (fun e => by subst e; rw [hrk] at hj; cases hj)]; exact hinv j s hj
      by_cases hw : Region.wanted o (yielded ops a.tmps) = true
      · simp only [hw, if_true] at h5 ⊢
        refine .inl ?_
        obtain ⟨u, he, _⟩ := h5
        have hp : pureUpon w u ((execOp a.eval o).run P w) := by
          unfold EP at he; simp only [hrk] at he
          exact he H w h2 hlH hC
        have hnext : wpAny P md ops Q' fuel (listed.setIfInBounds i true) (a.put o.dst u) w := by
          refine ih _ _ H w hls' hC hm hinv' (fun Hg g2 g3 => ?_)
          have g4 := (hall Hg g2 g3).2 i hi
          unfold qOpP at g4
          simp only [ho, hw, if_true] at g4
          obtain ⟨u', ge, gk⟩ := g4
          have gp : pureUpon w u' ((execOp a.eval o).run P w) := by
            unfold EP at ge; simp only [hrk] at ge
            exact ge H w g2 hlH hC
          rw [pureUpon_one hp gp]; exact gk
        unfold Oper.wp
        generalize (execOp a.eval o).run P w = r at *
        cases r with
        | ok n w' =>
          cases n <;> simp only [pureUpon] at hp <;> simp only [Oper.upon]
          case value x => obtain ⟨e1, e2⟩ := hp; rw [e1, e2]; exact hnext
          case skip => obtain ⟨e1, e2⟩ := hp; rw [e1, ← e2]; exact hnext
        | halt x w' => simp only [pureUpon] at hp
      · simp only [hw] at h5 ⊢
        refine ih _ _ H w hls' hC hm hinv' (fun Hg g2 g3 => ?_)
        have g4 := (hall Hg g2 g3).2 i hi
        unfold qOpP at g4
        simp only [ho, hw] at g4
        exact g4.2
    | some s =>
      by_cases hw : Region.wanted o (yielded ops a.tmps) = true
      · simp only [hw, if_true] at h5 ⊢
        refine .inl ?_
        have hge : H s = none := by
          have := hinv i s hrk
          rw [hun] at this
          exact Option.not_isSome_iff_eq_none.1 (by rw [← this]; decide)
        have hpr : ∀ p ∈ pre s, (H p).isSome = true := fun p hp => by
          obtain ⟨j, hj, e, he1, he2, he3⟩ := hpre i s o hrk ho p hp
          exact hreach j p e hj he1 he2 he3
        obtain ⟨u, he, _⟩ := h5
        have hc : callUpon P w (fun v w'' => C (setP H s v) w'') ((execOp a.eval o).run P w) := by
          unfold EP at he; simp only [hrk] at he
          exact he.2 H w h2 hge hpr hC
        have hsm := hbd i _ hrk
        have hnext : ∀ v w'', C (setP H s v) w'' → wpAny P md ops Q' fuel (listed.setIfInBounds i true) (a.put o.dst v) w'' := fun v w'' hv => by
          refine ih _ _ (setP H s v) w'' hls' hv (fun k hk => ?_) (fun j k hj => ?_) (fun Hg g2 g3 => ?_)
          · unfold setP; rw [if_neg (by omega)]; exact hm k hk
          · unfold setP
            by_cases e : i = j
            · subst e
              rw [hrk] at hj; cases hj
              rw [getD_set_eq, if_pos rfl]; rfl
            · rw [getD_set_ne true e, hinv j k hj, if_neg (fun h => e (by subst h; exact hinj _ _ _ hrk hj))]
          · have e3 : Hg s = v := g2 s v (by unfold setP; rw [if_pos rfl])
            have g5 : subP H Hg := fun k x hk => g2 k x (by
              unfold setP
              rw [if_neg (fun h => by subst h; rw [hge] at hk; cases hk)]; exact hk)
            have g4 := (hall Hg g5 g3).2 i hi
            unfold qOpP at g4
            simp only [ho, hw, if_true] at g4
            obtain ⟨u', ge, gk⟩ := g4
            unfold EP at ge
            simp only [hrk] at ge
            rw [ge.1, e3] at gk; exact gk
        unfold Oper.wp
        generalize (execOp a.eval o).run P w = r at *
        cases r with
        | ok n w' =>
          cases n <;> simp only [callUpon] at hc <;> simp only [Oper.upon]
          case enter f args =>
            obtain ⟨e1, hc⟩ := hc
            rw [e1]
            exact hc.mono fun e w'' ⟨v, he, hv⟩ => by subst he; exact hnext v w'' hv
          case value v => exact hnext v w' hc
          case skip => exact hnext undef w' hc
        | halt x w' => simp only [callUpon] at hc
      · simp only [hw] at h5
        have := h5.1
        rw [hrk] at this; cases this
theorem wpAnyIn_of_P {F : Fence} {n : Nat} {Q : (Nat → Value) → Act → Prop} {Q' : Exit → Act → World → Prop} (hex : ∀ H w, C H w → (∃ s, s < m ∧ H s = none) → ∃ s v w', s < m ∧ H s = none ∧ C (setP H s v) w')
    (hinj : ∀ i j s, rk i = some s → rk j = some s → i = j) (hsur : ∀ s, s < m → ∃ i, rk i = some s) (hbd : ∀ i s, rk i = some s → s < m)
    (hpre : ∀ i s o, rk i = some s → ops[i]? = some o → ∀ p ∈ pre s, ∃ j, rk j = some p ∧ ∃ e ∈ o.after, Region.binds md e = true ∧ e.on = j)
    (hsz : ∀ i s, rk i = some s → i < ops.size)
    (hnd : ∀ i o, rk i = none → ops[i]? = some o → ∀ p ∈ nd i, ∃ j, rk j = some p ∧ ∃ e ∈ o.after, Region.binds md e = true ∧ e.on = j)
    (hfn : ∀ f, F.fn f) (hdep : F.depth.isSome = true → 1 ≤ n) (hdf : ∀ (i : Nat) (o : Oper), ops[i]? = some o → ∀ c, o.op ≠ .defer c) (hci : ∀ (f : FuncId) (args : Array Value) (w : World) (R : Ending → World → Prop), Calls P f args w R → CallsIn F (n - 1) P f args w R)
    (hQ : ∀ Hf a w, C (fullP m Hf) w → Q Hf a → Q' .normal a w) : ∀ (fuel : Nat) (listed : Array Bool) (a : Act) (H : Nat → Option Value) (w : World), listed.size = ops.size → C H w → (∀ s, m ≤ s → H s = none) →
    (∀ i s, rk i = some s → listed.getD i true = (H s).isSome) →
    (∀ Hf, subP H Hf → (∃ w', C (fullP m Hf) w') → wpAnyP P md ops C rk pre nd Hf (Q Hf) fuel listed a) → wpAnyIn F n P md ops Q' fuel listed a w := by
  have hend : ∀ (listed : Array Bool) (a : Act) (H : Nat → Option Value) (w : World), C H w → (∀ s, m ≤ s → H s = none) → (∀ i s, rk i = some s → listed.getD i true = (H s).isSome) → ∀ Hf, subP H Hf → allDone rk listed → Q Hf a → Q' .normal a w := fun listed a H w hC hm hinv Hf ht hd hq => by
    have e : H = fullP m Hf := by
      funext s
      unfold fullP
      by_cases hs : s < m
      · rw [if_pos hs]
        obtain ⟨i, hi⟩ := hsur s hs
        have h1 := hinv i s hi
        rw [hd i s hi] at h1
        obtain ⟨v, hv⟩ := Option.isSome_iff_exists.1 h1.symm
        rw [hv, ht s v hv]
      · rw [if_neg hs]; exact hm s (by omega)
    rw [e] at hC
    exact hQ Hf a w hC hq
  intro fuel
  induction fuel with
  | zero =>
    intro listed a H w _ hC hm hinv hall
    obtain ⟨Hf, h2, h3⟩ := extendP hex H w hC hm
    have h4 := hall Hf h2 h3
    exact ⟨h4.1, hend listed a H w hC hm hinv Hf h2 h4.2.1 h4.2.2⟩
  | succ fuel ih =>
    intro listed a H w hls hC hm hinv hall
    obtain ⟨Hf, h2, h3⟩ := extendP hex H w hC hm
    have h4 := hall Hf h2 h3
    refine ⟨fun hr => hend listed a H w hC hm hinv Hf h2 (h4.1 hr).1 (h4.1 hr).2, fun i hi => ?_⟩
    have h5 := h4.2 i hi
    obtain ⟨hun, o, ho, hedge⟩ := mem_ready.1 hi
    unfold qOpP at h5
    simp only [ho] at h5
    unfold wpOpIn
    simp only [ho]
    have hsem : o.semAt F.round a.eval = execOp a.eval o := by
      cases F.round with
      | none => rfl
      | some l => exact Oper.semAt_some l _ _ (hdf i o ho)
    have hls' : (listed.setIfInBounds i true).size = ops.size := by simpa using hls
    have hreach : ∀ j s e, rk j = some s → e ∈ o.after → Region.binds md e = true → e.on = j → (H s).isSome = true := fun j s e hj he1 he2 he3 => by
      have h6 := hedge e he1 he2
      rw [he3] at h6
      have h7 := hinv j s hj
      have h8 : listed.getD j true = true := by
        have hjs : j < listed.size := by rw [hls]; exact hsz j s hj
        simp [hjs] at h6 ⊢; exact h6
      rw [← h7, h8]
    cases hrk : rk i with
    | none =>
      have hlH : ∀ p ∈ nd i, (H p).isSome = true := fun p hp => by
        obtain ⟨j, hj, e, he1, he2, he3⟩ := hnd i o hrk ho p hp
        exact hreach j p e hj he1 he2 he3
      have hinv' : ∀ j s, rk j = some s → (listed.setIfInBounds i true).getD j true = (H s).isSome := fun j s hj => by
        rw [getD_set_ne true (fun e => by subst e; rw [hrk] at hj; cases hj)]; exact hinv j s hj
      by_cases hw : Region.wanted o (yielded ops a.tmps) = true
      · simp only [hw, if_true] at h5 ⊢
        obtain ⟨u, he, _⟩ := h5
        have hp : pureUpon w u ((execOp a.eval o).run P w) := by
          unfold EP at he; simp only [hrk] at he
          exact he H w h2 hlH hC
        have hnext : wpAnyIn F n P md ops Q' fuel (listed.setIfInBounds i true) (a.put o.dst u) w := by
          refine ih _ _ H w hls' hC hm hinv' (fun Hg g2 g3 => ?_)
          have g4 := (hall Hg g2 g3).2 i hi
          unfold qOpP at g4
          simp only [ho, hw, if_true] at g4
          obtain ⟨u', ge, gk⟩ := g4
          have gp : pureUpon w u' ((execOp a.eval o).run P w) := by
            unfold EP at ge; simp only [hrk] at ge
            exact ge H w g2 hlH hC
          rw [pureUpon_one hp gp]; exact gk
        unfold Oper.wpIn
        refine ⟨fun f _ => hfn f, ?_⟩
        rw [hsem]
        generalize (execOp a.eval o).run P w = r at *
        cases r with
        | ok n w' =>
          cases n <;> simp only [pureUpon] at hp <;> simp only [Oper.uponIn]
          case value x => obtain ⟨e1, e2⟩ := hp; rw [e1, e2]; exact hnext
          case skip => obtain ⟨e1, e2⟩ := hp; rw [e1, ← e2]; exact hnext
        | halt x w' => simp only [pureUpon] at hp
      · simp only [hw] at h5 ⊢
        refine ⟨fun f _ => hfn f, ?_⟩
        refine ih _ _ H w hls' hC hm hinv' (fun Hg g2 g3 => ?_)
        have g4 := (hall Hg g2 g3).2 i hi
        unfold qOpP at g4
        simp only [ho, hw] at g4
        exact g4.2
    | some s =>
      by_cases hw : Region.wanted o (yielded ops a.tmps) = true
      · simp only [hw, if_true] at h5 ⊢
        have hge : H s = none := by
          have := hinv i s hrk
          rw [hun] at this
          exact Option.not_isSome_iff_eq_none.1 (by rw [← this]; decide)
        have hpr : ∀ p ∈ pre s, (H p).isSome = true := fun p hp => by
          obtain ⟨j, hj, e, he1, he2, he3⟩ := hpre i s o hrk ho p hp
          exact hreach j p e hj he1 he2 he3
        obtain ⟨u, he, _⟩ := h5
        have hc : callUpon P w (fun v w'' => C (setP H s v) w'') ((execOp a.eval o).run P w) := by
          unfold EP at he; simp only [hrk] at he
          exact he.2 H w h2 hge hpr hC
        have hsm := hbd i _ hrk
        have hnext : ∀ v w'', C (setP H s v) w'' → wpAnyIn F n P md ops Q' fuel (listed.setIfInBounds i true) (a.put o.dst v) w'' := fun v w'' hv => by
          refine ih _ _ (setP H s v) w'' hls' hv (fun k hk => ?_) (fun j k hj => ?_) (fun Hg g2 g3 => ?_)
          · unfold setP; rw [if_neg (by omega)]; exact hm k hk
          · unfold setP
            by_cases e : i = j
            · subst e
              rw [hrk] at hj; cases hj
              rw [getD_set_eq, if_pos rfl]; rfl
            · rw [getD_set_ne true e, hinv j k hj, if_neg (fun h => e (by subst h; exact hinj _ _ _ hrk hj))]
          · have e3 : Hg s = v := g2 s v (by unfold setP; rw [if_pos rfl])
            have g5 : subP H Hg := fun k x hk => g2 k x (by
              unfold setP
              rw [if_neg (fun h => by subst h; rw [hge] at hk; cases hk)]; exact hk)
            have g4 := (hall Hg g5 g3).2 i hi
            unfold qOpP at g4
            simp only [ho, hw, if_true] at g4
            obtain ⟨u', ge, gk⟩ := g4
            unfold EP at ge
            simp only [hrk] at ge
            rw [ge.1, e3] at gk; exact gk
        unfold Oper.wpIn
        refine ⟨fun f _ => hfn f, ?_⟩
        rw [hsem]
        generalize (execOp a.eval o).run P w = r at *
        cases r with
        | ok n w' =>
          cases n <;> simp only [callUpon] at hc <;> simp only [Oper.uponIn]
          case enter f args =>
            obtain ⟨e1, hc⟩ := hc
            rw [e1]
            exact ⟨hdep, (hci _ _ _ _ hc).mono fun e w'' ⟨v, he, hv⟩ => by subst he; exact hnext v w'' hv⟩
          case value v => exact hnext v w' hc
          case skip => exact hnext undef w' hc
        | halt x w' => simp only [callUpon] at hc
      · simp only [hw] at h5
        have := h5.1
        rw [hrk] at this; cases this
/-! ### the walk -/
def ndL (js : List (Nat × List Nat)) (i : Nat) : List Nat := ((js.find? fun p => p.1 == i).map (·.2)).getD []
def stepsPB (ops : Array Oper) (is : List Nat) (ps : List (List Nat)) (js : List (Nat × List Nat)) : Bool :=
  decide is.Nodup && (is.all fun i => decide (i < ops.size)) && ((List.range is.length).all fun s => (ps.getD s []).all fun p => decide (p < is.length) && followsB ops (is.getD p 0) (is.getD s 0)) &&
  (js.all fun q => q.2.all fun p => decide (p < is.length) && followsB ops (is.getD p 0) q.1)
theorem ndL_mem {js : List (Nat × List Nat)} {i p : Nat} (h : p ∈ ndL js i) : ∃ q ∈ js, q.1 = i ∧ p ∈ q.2 := by
  unfold ndL at h
  cases hf : js.find? fun q => q.1 == i with
  | none => rw [hf] at h; cases h
  | some q =>
    rw [hf] at h
    have h1 := List.find?_some hf
    have h2 := List.mem_of_find?_eq_some hf
    simp at h1
    exact ⟨q, h2, h1, h⟩
theorem wp_region_part {id : Nat} {Q : Exit → Act → World → Prop} {a : Act} {w : World} {l : List Oper} (is : List Nat) (ps : List (List Nat)) (js : List (Nat × List Nat)) (C : (Nat → Option Value) → World → Prop) (hm : P.follows .mixedOrders = true) (hB : Region.lexB .any l.toArray = true) (hS : stepsPB l.toArray is ps js = true)
    (hC : C (fun _ => none) w.drew) (hex : ∀ H w, C H w → (∃ s, s < is.length ∧ H s = none) → ∃ s v w', s < is.length ∧ H s = none ∧ C (setP H s v) w')
    (h : ∀ Hf, (∃ w', C (fullP is.length Hf) w') → wpLexP P l.toArray C (rkL is) (fun s => ps.getD s []) (ndL js) Hf (fun a' => ∀ w', C (fullP is.length Hf) w' → Q .normal a' w') 0 l a) : (Code.region id l.toArray true).wp P Q a w := by
  simp only [Region.lexB, Bool.and_eq_true] at hB
  simp only [stepsPB, Bool.and_eq_true, decide_eq_true_eq, List.all_eq_true] at hS
  obtain ⟨⟨⟨hnd, hsz⟩, hfo⟩, hjs⟩ := hS
  have hszI : ∀ i s, rkL is i = some s → i < l.toArray.size := fun i s h1 => by
    obtain ⟨h2, h3⟩ := rkL_some h1
    have h4 := hsz (is.getD s 0) (by rw [List.getD, List.getElem?_eq_getElem h2]; exact List.getElem_mem h2)
    rw [h3] at h4
    exact h4
  refine wp_region_any hm ?_
  refine wpAny_of_P (C := C) (rk := rkL is) (pre := fun s => ps.getD s []) (nd := ndL js) (m := is.length) (Q := fun Hf a' => ∀ w', C (fullP is.length Hf) w' → Q .normal a' w') hex (fun i j s h1 h2 => ?_) (fun s hs => ⟨_, rkL_at hnd hs⟩) (fun i s h1 => (rkL_some h1).1) (fun i s o h1 ho p hp => ?_) hszI (fun i o h1 ho p hp => ?_) (fun Hf a w hC hq => hq w hC) _ (Array.replicate l.toArray.size false) a (fun _ => none) _ (by simp) hC (fun _ _ => rfl) (fun i s h1 => ?_) (fun Hf _ hx => ?_)
  · rw [← (rkL_some h1).2, ← (rkL_some h2).2]
  · obtain ⟨h2, h3⟩ := rkL_some h1
    have h4 := hfo s (List.mem_range.2 h2) p hp
    rw [h3] at h4
    exact ⟨_, rkL_at hnd h4.1, follows_spec h4.2 ho⟩
  · obtain ⟨q, hq, h2, h3⟩ := ndL_mem hp
    have h4 := hjs q hq p h3
    rw [h2] at h4
    exact ⟨_, rkL_at hnd h4.1, follows_spec h4.2 ho⟩
  · have := hszI i s h1
    simp only [List.size_toArray] at this
    simp [this]
  · exact wpAnyP_lex (md := .any) hB.1 hszI l.toArray.toList 0 (Array.replicate l.toArray.size false) a (by simp) (fun i s _ h => absurd h (Nat.not_lt_zero _)) (by simpa using hB.2) (h Hf hx)
theorem wpIn_region_part {F : Fence} {n : Nat} (hfn : ∀ f, F.fn f) (hdep : F.depth.isSome = true → 1 ≤ n) (hci : ∀ (f : FuncId) (args : Array Value) (w : World) (R : Ending → World → Prop), Calls P f args w R → CallsIn F (n - 1) P f args w R) {id : Nat} {Q : Exit → Act → World → Prop} {a : Act} {w : World} {l : List Oper} (is : List Nat) (ps : List (List Nat)) (js : List (Nat × List Nat)) (C : (Nat → Option Value) → World → Prop) (hm : P.follows .mixedOrders = true) (hB : Region.lexB .any l.toArray = true) (hS : stepsPB l.toArray is ps js = true) (hdf : ∀ (i : Nat) (o : Oper), l.toArray[i]? = some o → ∀ c, o.op ≠ .defer c)
    (hC : C (fun _ => none) w.drew) (hex : ∀ H w, C H w → (∃ s, s < is.length ∧ H s = none) → ∃ s v w', s < is.length ∧ H s = none ∧ C (setP H s v) w')
    (h : ∀ Hf, (∃ w', C (fullP is.length Hf) w') → wpLexP P l.toArray C (rkL is) (fun s => ps.getD s []) (ndL js) Hf (fun a' => ∀ w', C (fullP is.length Hf) w' → Q .normal a' w') 0 l a) : (Code.region id l.toArray true).wpIn F n P Q a w := by
  simp only [Region.lexB, Bool.and_eq_true] at hB
  simp only [stepsPB, Bool.and_eq_true, decide_eq_true_eq, List.all_eq_true] at hS
  obtain ⟨⟨⟨hnd, hsz⟩, hfo⟩, hjs⟩ := hS
  have hszI : ∀ i s, rkL is i = some s → i < l.toArray.size := fun i s h1 => by
    obtain ⟨h2, h3⟩ := rkL_some h1
    have h4 := hsz (is.getD s 0) (by rw [List.getD, List.getElem?_eq_getElem h2]; exact List.getElem_mem h2)
    rw [h3] at h4
    exact h4
  refine wpIn_region_any hm ?_
  refine wpAnyIn_of_P (F := F) (n := n) (C := C) (rk := rkL is) (pre := fun s => ps.getD s []) (nd := ndL js) (m := is.length) (Q := fun Hf a' => ∀ w', C (fullP is.length Hf) w' → Q .normal a' w') hex (fun i j s h1 h2 => ?_) (fun s hs => ⟨_, rkL_at hnd hs⟩) (fun i s h1 => (rkL_some h1).1) (fun i s o h1 ho p hp => ?_) hszI (fun i o h1 ho p hp => ?_) hfn hdep hdf hci (fun Hf a w hC hq => hq w hC) _ (Array.replicate l.toArray.size false) a (fun _ => none) _ (by simp) hC (fun _ _ => rfl) (fun i s h1 => ?_) (fun Hf _ hx => ?_)
  · rw [← (rkL_some h1).2, ← (rkL_some h2).2]
  · obtain ⟨h2, h3⟩ := rkL_some h1
    have h4 := hfo s (List.mem_range.2 h2) p hp
    rw [h3] at h4
    exact ⟨_, rkL_at hnd h4.1, follows_spec h4.2 ho⟩
  · obtain ⟨q, hq, h2, h3⟩ := ndL_mem hp
    have h4 := hjs q hq p h3
    rw [h2] at h4
    exact ⟨_, rkL_at hnd h4.1, follows_spec h4.2 ho⟩
  · have := hszI i s h1
    simp only [List.size_toArray] at this
    simp [this]
  · exact wpAnyP_lex (md := .any) hB.1 hszI l.toArray.toList 0 (Array.replicate l.toArray.size false) a (by simp) (fun i s _ h => absurd h (Nat.not_lt_zero _)) (by simpa using hB.2) (h Hf hx)
/-- A world in which some of the steps are done, those of nds at least. -/
def clsP (C : (Nat → Option Value) → World → Prop) (Hf : Nat → Value) (nds : List Nat) (w : World) : Prop := ∃ H, subP H Hf ∧ (∀ p ∈ nds, (H p).isSome = true) ∧ C H w
theorem part_one {nds : List Nat} {k : Nat} {o : Oper} {rest : List Oper} {a : Act} {Q : Act → Prop} (hb : ∀ p ∈ nds, p ∈ nd k) (hrk : rk k = none) (hp : plainOp o.op = true)
    (h : if Region.wanted o (yielded ops a.tmps) then o.quiet P a (clsP C Hf nds) (fun a' => wpLexP P ops C rk pre nd Hf Q (k + 1) rest a') else wpLexP P ops C rk pre nd Hf Q (k + 1) rest (a.put o.dst undef)) : wpLexP P ops C rk pre nd Hf Q k (o :: rest) a := by
  unfold wpLexP
  by_cases hw : Region.wanted o (yielded ops a.tmps) = true
  · simp only [hw, if_true] at h ⊢
    obtain ⟨v, h1, h2⟩ := h
    refine ⟨v, ?_, h2⟩
    unfold EP
    simp only [hrk]
    intro H w hs hn hC
    have h3 := h1 w ⟨H, hs, fun p hp => hn p (hb p hp), hC⟩
    unfold Oper.quietAt at h3
    have h4 := fun n w' => plain_run (P := P) (o := o) (ρ := a.eval) (w := w) (w' := w') (n := n) hp
    generalize (execOp a.eval o).run P w = r at *
    cases r with
    | ok n w' =>
      obtain ⟨u, rfl⟩ := h4 n w' rfl
      exact h3
    | halt x w' => exact h3.elim
  · simp only [hw] at h ⊢
    exact ⟨hrk, h⟩
/-- The next n operations only read. -/
theorem part_chunk (nds : List Nat) : ∀ (n k : Nat) (l : List Oper) (a : Act) {Q : Act → Prop}, ((List.range n).all fun j => (nds.all fun p => (nd (k + j)).contains p) && (rk (k + j)).isNone) = true → ((l.take n).all fun o => plainOp o.op) = true → n ≤ l.length →
    wpQuiet P ops (clsP C Hf nds) (fun a' => wpLexP P ops C rk pre nd Hf Q (k + n) (l.drop n) a') (l.take n) a → wpLexP P ops C rk pre nd Hf Q k l a
  | 0, k, l, a, Q, _, _, _, h => by simpa [wpQuiet] using h
  | n + 1, k, [], a, Q, _, _, hl, _ => by simp at hl
  | n + 1, k, o :: l, a, Q, hb, hp, hl, h => by
    simp only [List.take_succ_cons, List.all_cons, Bool.and_eq_true] at hp
    simp only [List.length_cons] at hl
    simp only [List.all_eq_true, List.mem_range, Bool.and_eq_true, List.contains_iff_mem, Option.isNone_iff_eq_none] at hb
    refine part_one (hb 0 (by omega)).1 (hb 0 (by omega)).2 hp.1 ?_
    simp only [List.take_succ_cons, List.drop_succ_cons, wpQuiet] at h
    have hgo : ∀ a', wpQuiet P ops (clsP C Hf nds) (fun a' => wpLexP P ops C rk pre nd Hf Q (k + (n + 1)) (l.drop n) a') (l.take n) a' → wpLexP P ops C rk pre nd Hf Q (k + 1) l a' := fun a' ha =>
      part_chunk nds n (k + 1) l a' (by
        simp only [List.all_eq_true, List.mem_range, Bool.and_eq_true, List.contains_iff_mem, Option.isNone_iff_eq_none]
        intro j hj
        have := hb (j + 1) (by omega)
        rwa [show k + (j + 1) = k + 1 + j by omega] at this) hp.2 (by omega) (by rwa [show k + 1 + n = k + (n + 1) by omega])
    split
    · rename_i hw; simp only [hw, if_true] at h; exact Oper.quiet_mono hgo h
    · rename_i hw; simp only [hw] at h; exact hgo _ h
theorem part_step {k s : Nat} {o : Oper} {rest : List Oper} {a : Act} {Q : Act → Prop} {v : Value} {a' : Act} (hv : Hf s = v) (ha : a.put o.dst v = a') (hrk : rk k = some s) (hw : Region.wanted o (yielded ops a.tmps) = true)
    (hc : ∀ H w, subP H Hf → H s = none → (∀ p ∈ pre s, (H p).isSome = true) → C H w → callUpon P w (fun v w'' => C (setP H s v) w'') ((execOp a.eval o).run P w)) (h : wpLexP P ops C rk pre nd Hf Q (k + 1) rest a') : wpLexP P ops C rk pre nd Hf Q k (o :: rest) a := by
  unfold wpLexP
  rw [if_pos hw]
  refine ⟨Hf s, ?_, by rw [hv, ha]; exact h⟩
  unfold EP; simp only [hrk]
  exact ⟨trivial, hc⟩
theorem part_skip {k : Nat} {o : Oper} {rest : List Oper} {a a' : Act} {Q : Act → Prop} (ha : a.put o.dst undef = a') (hrk : rk k = none) (hw : Region.wanted o (yielded ops a.tmps) = false) (h : wpLexP P ops C rk pre nd Hf Q (k + 1) rest a') : wpLexP P ops C rk pre nd Hf Q k (o :: rest) a := by
  unfold wpLexP; rw [if_neg (by rw [hw]; exact Bool.false_ne_true)]; exact ⟨hrk, by rw [ha]; exact h⟩
end
end Go.Proofs.Ytjmdibgncaljaaa
