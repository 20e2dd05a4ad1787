/- Drawn regions that hold calls which make memory, all else in them only reads: one walk of the lexical order serves every order. After the kit's Quiet: its class of worlds is here a class for each history of the calls' values. QR's law under a fence. -/
import Derived.BigQuiet
import Derived.OrdersIn
import Derived.TacticsIn
/-! Drawn regions that hold calls which make memory, all else in them only reads: one walk of the lexical order serves every order. After the kit's Quiet: its class of worlds is here a class for each history of the calls' values. -/
namespace Go.Proofs.Ytjmdibgncaljaaa
open Go

section
variable {P : Program} {ops : Array Oper} {md : Region.Mode} {C : List Value → World → Prop} {rk : Nat → Option Nat} {lo : Nat → Nat} {m : Nat} {Hf : List Value}

/-- A value, and the world as it was. -/
def pureUpon (w : World) (v : Value) : Result Next → Prop
  | .ok (.value u) w' => w' = w ∧ u = v
  | .ok .skip w' => w' = w ∧ v = undef
  | _ => False
theorem pureUpon_one {w : World} {u v : Value} {r : Result Next} (h : pureUpon w u r) (h' : pureUpon w v r) : u = v := by
  unfold pureUpon at *
  split at h
  · simp only at h'; rw [← h.2, ← h'.2]
  · simp only at h'; rw [h.2, h'.2]
  · exact h.elim
/-- A call whose value and world are of this class. -/
def callUpon (P : Program) (w : World) (V : Value → World → Prop) : Result Next → Prop
  | .ok (.enter f args) w' => w' = w ∧ Calls P f args w (fun e w'' => ∃ v, e = .returned v ∧ V v w'')
  | .ok (.value v) w' => V v w'
  | .ok .skip w' => V undef w'
  | _ => False
/-- What is asked of operation number i in the frame a: its value is u. -/
def EH (P : Program) (C : List Value → World → Prop) (rk : Nat → Option Nat) (lo : Nat → Nat) (Hf : List Value) (i : Nat) (o : Oper) (a : Act) (u : Value) : Prop :=
  match rk i with
  | none => ∀ k w, lo i ≤ k → C (Hf.take k) w → pureUpon w u ((execOp a.eval o).run P w)
  | some r => u = Hf.getD r undef ∧ ∀ w, C (Hf.take r) w → callUpon P w (fun v w'' => C (Hf.take r ++ [v]) w'') ((execOp a.eval o).run P w)
theorem EH_same {i : Nat} {o : Oper} {a a' : Act} {u : Value} (he : execOp a'.eval o = execOp a.eval o) (h : EH P C rk lo Hf i o a u) : EH P C rk lo Hf i o a' u := by
  unfold EH at *; rw [he]; exact h
def qOpE (P : Program) (ops : Array Oper) (C : List Value → World → Prop) (rk : Nat → Option Nat) (lo : Nat → Nat) (Hf : List Value) (i : Nat) (K : Act → Prop) (a : Act) : Prop :=
  match ops[i]? with
  | none => K a
  | some o => if Region.wanted o (yielded ops a.tmps) then ∃ u, EH P C rk lo Hf i o a u ∧ K (a.put o.dst u) else rk i = none ∧ K (a.put o.dst undef)
theorem qOpE_mono {i : Nat} {a : Act} {K K' : Act → Prop} (h : ∀ a, K a → K' a) (hh : qOpE P ops C rk lo Hf i K a) : qOpE P ops C rk lo Hf i K' a := by
  unfold qOpE at *
  split
  · exact h _ (by simpa [*] using hh)
  · rename_i o ho
    simp only [ho] at hh
    split
    · rename_i hw; simp only [hw, if_true] at hh; obtain ⟨u, h1, h2⟩ := hh; exact ⟨u, h1, h _ h2⟩
    · rename_i hw; simp only [hw] at hh; exact ⟨hh.1, h _ hh.2⟩
/-- All the calls are done. -/
def allDone (rk : Nat → Option Nat) (listed : Array Bool) : Prop := ∀ i s, rk i = some s → listed.getD i true = true
theorem getD_set_tt {listed : Array Bool} {i j : Nat} (h : listed.getD j true = true) : (listed.setIfInBounds i true).getD j true = true := by
  by_cases hij : i = j
  · subst hij
    rcases Nat.lt_or_ge i listed.size with h' | h'
    · simp [h']
    · simp [h']
  · rw [getD_set_ne true hij]; exact h
theorem getD_set_eq {listed : Array Bool} {i : Nat} : (listed.setIfInBounds i true).getD i true = true := by
  rcases Nat.lt_or_ge i listed.size with h' | h'
  · simp [h']
  · simp [h']
def wpAnyE (P : Program) (md : Region.Mode) (ops : Array Oper) (C : List Value → World → Prop) (rk : Nat → Option Nat) (lo : Nat → Nat) (Hf : List Value) (Q : Act → Prop) : Nat → Array Bool → Act → Prop
  | 0, listed, a => Region.ready md ops listed = [] ∧ allDone rk listed ∧ Q a
  | fuel + 1, listed, a =>
    (Region.ready md ops listed = [] → allDone rk listed ∧ Q a) ∧
    ∀ i ∈ Region.ready md ops listed, qOpE P ops C rk lo Hf i (wpAnyE P md ops C rk lo Hf Q fuel (listed.setIfInBounds i true)) a
def YE (P : Program) (ops : Array Oper) (C : List Value → World → Prop) (rk : Nat → Option Nat) (lo : Nat → Nat) (Hf : List Value) (i : Nat) (o : Oper) (v : Value) (a : Act) : Prop :=
  (Region.wanted o (yielded ops a.tmps) = true ∧ EH P C rk lo Hf i o a v) ∨ (Region.wanted o (yielded ops a.tmps) = false ∧ v = undef ∧ rk i = none)
theorem YE.qOp {i : Nat} {o : Oper} {v : Value} {a : Act} (hi : ops[i]? = some o) (hy : YE P ops C rk lo Hf i o v a) {K : Act → Prop} (h : K (a.put o.dst v)) : qOpE P ops C rk lo Hf i K a := by
  unfold qOpE
  simp only [hi]
  rcases hy with ⟨hw, hv⟩ | ⟨hw, rfl, hr⟩
  · simp only [hw, if_true]; exact ⟨v, hv, h⟩
  · simp only [hw, Bool.false_eq_true, if_false]; exact ⟨hr, h⟩
theorem YE.of_same {i : Nat} {o : Oper} {v : Value} {a a' : Act} (hy : YE P ops C rk lo Hf i o v a) (he : execOp a'.eval o = execOp a.eval o)
    (hw : Region.wanted o (yielded ops a'.tmps) = Region.wanted o (yielded ops a.tmps)) : YE P ops C rk lo Hf i o v a' := by
  unfold YE at *
  rw [hw]
  rcases hy with ⟨h1, h2⟩ | h
  · exact .inl ⟨h1, EH_same he h2⟩
  · exact .inr h
theorem ye_of_qOpE {i : Nat} {o : Oper} {a : Act} {K : Act → Prop} (hi : ops[i]? = some o) (h : qOpE P ops C rk lo Hf i K a) : ∃ v, YE P ops C rk lo Hf i o v a ∧ K (a.put o.dst v) := by
  unfold qOpE at h
  simp only [hi] at h
  by_cases hw : Region.wanted o (yielded ops a.tmps) = true
  · simp only [hw, if_true] at h
    obtain ⟨v, h1, h2⟩ := h
    exact ⟨v, .inl ⟨hw, h1⟩, h2⟩
  · simp only [hw] at h
    exact ⟨undef, .inr ⟨by simpa using hw, rfl, h.1⟩, h.2⟩
theorem qOpE_put {i j : Nat} {oi oj : Oper} {v : Value} (hj : ops[j]? = some oj) (hap : oi.apart ops oj = true)
    (hsi : ∀ cs b, oi.op ≠ .select cs b) (hsj : ∀ cs b, oj.op ≠ .select cs b) {K : Act → Prop} {a : Act}
    (hy : YE P ops C rk lo Hf i oi v a) (h : qOpE P ops C rk lo Hf j K (a.put oi.dst v)) :
    qOpE P ops C rk lo Hf j (fun a' => YE P ops C rk lo Hf i oi v a' ∧ K (a'.put oi.dst v)) a := by
  obtain ⟨h1, h2, h3⟩ := Oper.apart_spec hap
  have keep : ∀ (a : Act), YE P ops C rk lo Hf i oi v a → ∀ u, YE P ops C rk lo Hf i oi v (a.put oj.dst u) := fun a hy u =>
    hy.of_same (execOp_put oi hsi a oj.dst u h3) (wanted_put oi a oj.dst u h3)
  unfold qOpE at *
  simp only [hj] at *
  rw [wanted_put oj a oi.dst v h1] at h
  split
  · rename_i hw
    simp only [hw, if_true] at h
    obtain ⟨u, hu, hn⟩ := h
    exact ⟨u, EH_same (execOp_put oj hsj a oi.dst v h1).symm hu, keep a hy u, by rw [← Act.put_comm a v u h2]; exact hn⟩
  · rename_i hw
    simp only [hw] at h
    exact ⟨h.1, keep a hy _, by rw [← Act.put_comm a v undef h2]; exact h.2⟩
theorem wpAnyE_first {Q : Act → Prop} {i : Nat} {oi : Oper} {v : Value} (hi : ops[i]? = some oi) (hsel : ∀ (j : Nat) (o : Oper) cs b, ops[j]? = some o → o.op ≠ .select cs b) :
    ∀ (fuel : Nat) (listed : Array Bool) (a : Act),
      (∀ j oj, ops[j]? = some oj → j ≠ i → listed.getD j true = false → (∀ e ∈ oj.after, Region.binds md e = true → e.on ≠ i) → oi.apart ops oj = true) →
      i ∈ Region.ready md ops listed → YE P ops C rk lo Hf i oi v a →
      wpAnyE P md ops C rk lo Hf Q fuel (listed.setIfInBounds i true) (a.put oi.dst v) → wpAnyE P md ops C rk lo Hf Q (fuel + 1) listed a := by
  intro fuel
  induction fuel with
  | zero =>
    intro listed a _ hr hy H
    refine ⟨fun h => (by rw [h] at hr; cases hr), fun j hj => ?_⟩
    by_cases hji : j = i
    · subst hji; exact hy.qOp hi H
    · have := ready_mono hj hji
      rw [H.1] at this
      cases this
  | succ fuel ih =>
    intro listed a hfree hr hy H
    refine ⟨fun h => (by rw [h] at hr; cases hr), fun j hj => ?_⟩
    by_cases hji : j = i
    · subst hji; exact hy.qOp hi H
    · have h1 := H.2 j (ready_mono hj hji)
      obtain ⟨hjun, oj, hoj, hall⟩ := mem_ready.1 hj
      have hnot : ∀ e ∈ oj.after, Region.binds md e = true → e.on ≠ i := fun e he hb heq => by
        have h1 := hall e he hb
        have h0 := (mem_ready.1 hr).1
        rw [heq] at h1
        rcases Nat.lt_or_ge i listed.size with h' | h'
        · simp [h'] at h0 h1; rw [h0] at h1; cases h1
        · simp [Array.getElem?_eq_none h'] at h1
      have h2 := qOpE_put hoj (hfree j oj hoj hji hjun hnot) (fun cs b => hsel i oi cs b hi) (fun cs b => hsel j oj cs b hoj) hy h1
      have hfree' : ∀ k ok, ops[k]? = some ok → k ≠ i → (listed.setIfInBounds j true).getD k true = false →
          (∀ e ∈ ok.after, Region.binds md e = true → e.on ≠ i) → oi.apart ops ok = true := fun k ok hk hki hun hno => by
        refine hfree k ok hk hki ?_ hno
        by_cases hjk : j = k
        · subst hjk; exact hjun
        · rw [getD_set_ne true hjk] at hun; exact hun
      refine qOpE_mono (fun a' h3 => ih (listed.setIfInBounds j true) a' hfree' (ready_mono hr (Ne.symm hji)) h3.1 ?_) h2
      rw [Array.setIfInBounds_comm _ _ hji]
      exact h3.2
/-- The lexical walk. -/
def wpLexE (P : Program) (ops : Array Oper) (C : List Value → World → Prop) (rk : Nat → Option Nat) (lo : Nat → Nat) (Hf : List Value) (Q : Act → Prop) : Nat → List Oper → Act → Prop
  | _, [], a => Q a
  | k, o :: rest, a => if Region.wanted o (yielded ops a.tmps) then ∃ u, EH P C rk lo Hf k o a u ∧ wpLexE P ops C rk lo Hf Q (k + 1) rest (a.put o.dst u) else rk k = none ∧ wpLexE P ops C rk lo Hf Q (k + 1) rest (a.put o.dst undef)
theorem wpAnyE_lex {Q : Act → Prop} (hs : Region.noSelect ops = true) (hb : ∀ i s, rk i = some s → i < ops.size) : ∀ (l : List Oper) (k : Nat) (listed : Array Bool) (a : Act), (∀ j, l[j]? = ops[k + j]?) →
    (∀ i s, rk i = some s → i < k → listed.getD i true = true) →
    Region.lexFrom md ops l.length k listed = true → wpLexE P ops C rk lo Hf Q k l a → wpAnyE P md ops C rk lo Hf Q l.length listed a
  | [], k, _, _, hl, hd, hB, h => ⟨by simpa [Region.lexFrom] using hB, fun i s hi => hd i s hi (by
      have h1 := hb i s hi
      have h2 := hl 0
      simp at h2
      omega), h⟩
  | o :: l, k, listed, a, hl, hd, hB, h => by
    have h0 : ops[k]? = some o := by simpa using (hl 0).symm
    simp only [List.length_cons, Region.lexFrom, Bool.and_eq_true] at hB
    obtain ⟨⟨hr, hf⟩, hB'⟩ := hB
    have hst : qOpE P ops C rk lo Hf k (wpLexE P ops C rk lo Hf Q (k + 1) l) a := by unfold qOpE; simp only [h0]; exact h
    obtain ⟨v, hy, hK⟩ := ye_of_qOpE h0 hst
    refine wpAnyE_first h0 (Region.noSelect_spec hs) l.length listed a (Region.free_spec h0 hf) (by simpa using hr) hy
      (wpAnyE_lex hs hb l (k + 1) _ _ (fun j => by have := hl (j + 1); simpa [Nat.add_assoc, Nat.add_comm 1 j] using this) (fun i s hi hik => ?_) hB' hK)
    by_cases e : i = k
    · subst e; exact getD_set_eq
    · exact getD_set_tt (hd i s hi (by omega))

/-! ### It is a wpAny -/
theorem extendH (hex : ∀ H w, C H w → H.length < m → ∃ v w', C (H ++ [v]) w') : ∀ (n : Nat) (H : List Value) (w : World), C H w → H.length + n = m → ∃ Hf, Hf.length = m ∧ Hf.take H.length = H ∧ ∃ w', C Hf w'
  | 0, H, w, hC, hn => ⟨H, by omega, List.take_length, w, hC⟩
  | n + 1, H, w, hC, hn => by
    obtain ⟨v, w', h1⟩ := hex H w hC (by omega)
    obtain ⟨Hf, h2, h3, h4⟩ := extendH hex n (H ++ [v]) w' h1 (by simp; omega)
    refine ⟨Hf, h2, ?_, h4⟩
    have := congrArg (List.take H.length) h3
    rw [List.take_take] at this
    simpa using this
theorem wpAny_of_E {Q : List Value → Act → Prop} {Q' : Exit → Act → World → Prop} (hex : ∀ H w, C H w → H.length < m → ∃ v w', C (H ++ [v]) w')
    (hinj : ∀ i j s, rk i = some s → rk j = some s → i = j) (hsur : ∀ s, s < m → ∃ i, rk i = some s) (hbd : ∀ i s, rk i = some s → s < m)
    (hord : ∀ i s o, rk i = some (s + 1) → ops[i]? = some o → ∃ j, rk j = some s ∧ ∃ e ∈ o.after, Region.binds md e = true ∧ e.on = j)
    (hsz : ∀ i s, rk i = some s → i < ops.size)
    (hlo : ∀ i s o, rk i = none → lo i = s + 1 → ops[i]? = some o → ∃ j, rk j = some s ∧ ∃ e ∈ o.after, Region.binds md e = true ∧ e.on = j)
    (hQ : ∀ Hf a w, Hf.length = m → C Hf w → Q Hf a → Q' .normal a w) : ∀ (fuel : Nat) (listed : Array Bool) (a : Act) (H : List Value) (w : World), listed.size = ops.size → C H w → H.length ≤ m →
    (∀ i s, rk i = some s → listed.getD i true = decide (s < H.length)) →
    (∀ Hf, Hf.length = m → Hf.take H.length = H → (∃ w', C Hf w') → wpAnyE P md ops C rk lo Hf (Q Hf) fuel listed a) → wpAny P md ops Q' fuel listed a w := by
  have hend : ∀ (listed : Array Bool) (a : Act) (H : List Value) (w : World), C H w → H.length ≤ m → (∀ i s, rk i = some s → listed.getD i true = decide (s < H.length)) → ∀ Hf, Hf.length = m → Hf.take H.length = H → allDone rk listed → Q Hf a → Q' .normal a w := fun listed a H w hC hm hinv Hf hl ht hd hq => by
    have e : H.length = m := by
      rcases Nat.lt_or_ge H.length m with h | h
      · obtain ⟨i, hi⟩ := hsur H.length h
        have h1 := hinv i _ hi
        rw [hd i _ hi] at h1
        simp at h1
      · omega
    have e2 : Hf = H := by rw [← ht, e, ← hl, List.take_length]
    rw [e2] at hq
    exact hQ H a w e hC hq
  intro fuel
  induction fuel with
  | zero =>
    intro listed a H w _ hC hm hinv hall
    obtain ⟨Hf, h1, h2, h3⟩ := extendH hex (m - H.length) H w hC (by omega)
    have h4 := hall Hf h1 h2 h3
    exact ⟨h4.1, hend listed a H w hC hm hinv Hf h1 h2 h4.2.1 h4.2.2⟩
  | succ fuel ih =>
    intro listed a H w hls hC hm hinv hall
    obtain ⟨Hf, h1, h2, h3⟩ := extendH hex (m - H.length) H w hC (by omega)
    have h4 := hall Hf h1 h2 h3
    refine ⟨fun hr => hend listed a H w hC hm hinv Hf h1 h2 (h4.1 hr).1 (h4.1 hr).2, fun i hi => ?_⟩
    have h5 := h4.2 i hi
    obtain ⟨hun, o, ho, hedge⟩ := mem_ready.1 hi
    unfold qOpE at h5
    simp only [ho] at h5
    unfold wpOp
    simp only [ho]
    have hls' : (listed.setIfInBounds i true).size = ops.size := by simpa using hls
    have hreach : ∀ j s e, rk j = some s → e ∈ o.after → Region.binds md e = true → e.on = j → s < H.length := fun j s e hj he1 he2 he3 => by
      have h6 := hedge e he1 he2
      rw [he3] at h6
      have h7 := hinv j s hj
      have h8 : listed.getD j true = true := by
        have hjs : j < listed.size := by rw [hls]; exact hsz j s hj
        simp [hjs] at h6 ⊢; exact h6
      rw [h8] at h7
      exact of_decide_eq_true h7.symm
    cases hrk : rk i with
    | none =>
      have hlH : lo i ≤ H.length := by
        cases hlo1 : lo i with
        | zero => omega
        | succ s' =>
          obtain ⟨j, hj, e, he1, he2, he3⟩ := hlo i s' o hrk hlo1 ho
          have := hreach j s' e hj he1 he2 he3
          omega
      have hinv' : ∀ j s, rk j = some s → (listed.setIfInBounds i true).getD j true = decide (s < H.length) := fun j s hj => by
        rw [getD_set_ne true (fun e => by subst e; rw [hrk] at hj; cases hj)]; exact hinv j s hj
      by_cases hw : Region.wanted o (yielded ops a.tmps) = true
      · simp only [hw, if_true] at h5 ⊢
        refine .inl ?_
        obtain ⟨u, he, _⟩ := h5
        have hp : pureUpon w u ((execOp a.eval o).run P w) := by
          unfold EH at he; simp only [hrk] at he
          exact he H.length w hlH (by rw [h2]; exact hC)
        have hnext : wpAny P md ops Q' fuel (listed.setIfInBounds i true) (a.put o.dst u) w := by
          refine ih _ _ H w hls' hC hm hinv' (fun Hg g1 g2 g3 => ?_)
          have g4 := (hall Hg g1 g2 g3).2 i hi
          unfold qOpE at g4
          simp only [ho, hw, if_true] at g4
          obtain ⟨u', ge, gk⟩ := g4
          have gp : pureUpon w u' ((execOp a.eval o).run P w) := by
            unfold EH at ge; simp only [hrk] at ge
            exact ge H.length w hlH (by rw [g2]; exact hC)
          rw [pureUpon_one hp gp]; exact gk
        unfold Oper.wp
        generalize (execOp a.eval o).run P w = r at *
        cases r with
        | ok n w' =>
          cases n <;> simp only [pureUpon] at hp <;> simp only [Oper.upon]
          case value x => obtain ⟨e1, e2⟩ := hp; rw [e1, e2]; exact hnext
          case skip => obtain ⟨e1, e2⟩ := hp; rw [e1, ← e2]; exact hnext
        | halt x w' => simp only [pureUpon] at hp
      · simp only [hw] at h5 ⊢
        refine ih _ _ H w hls' hC hm hinv' (fun Hg g1 g2 g3 => ?_)
        have g4 := (hall Hg g1 g2 g3).2 i hi
        unfold qOpE at g4
        simp only [ho, hw] at g4
        exact g4.2
    | some s =>
      by_cases hw : Region.wanted o (yielded ops a.tmps) = true
      · simp only [hw, if_true] at h5 ⊢
        refine .inl ?_
        have hge : ¬ s < H.length := fun h => by
          have := hinv i s hrk
          rw [decide_eq_true h, hun] at this; cases this
        have hle : s ≤ H.length := by
          cases s with
          | zero => omega
          | succ s' =>
            obtain ⟨j, hj, e, he1, he2, he3⟩ := hord i s' o hrk ho
            have := hreach j s' e hj he1 he2 he3
            omega
        have hs : s = H.length := by omega
        subst hs
        obtain ⟨u, he, _⟩ := h5
        have hc : callUpon P w (fun v w'' => C (H ++ [v]) w'') ((execOp a.eval o).run P w) := by
          unfold EH at he; simp only [hrk] at he
          have := he.2 w (by rw [h2]; exact hC)
          rw [h2] at this; exact this
        have hsm := hbd i _ hrk
        have hnext : ∀ v w'', C (H ++ [v]) w'' → wpAny P md ops Q' fuel (listed.setIfInBounds i true) (a.put o.dst v) w'' := fun v w'' hv => by
          refine ih _ _ (H ++ [v]) w'' hls' hv (by simp; omega) (fun j s hj => ?_) (fun Hg g1 g2 g3 => ?_)
          · by_cases e : i = j
            · subst e
              rw [hrk] at hj; cases hj
              rw [getD_set_eq]; simp
            · rw [getD_set_ne true e, hinv j s hj]
              have hne : s ≠ H.length := fun h => e (by subst h; exact hinj _ _ _ hrk hj)
              simp only [List.length_append, List.length_singleton, decide_eq_decide]
              omega
          · have g5 : Hg.take H.length = H := by
              have := congrArg (List.take H.length) g2
              rw [List.take_take] at this
              simpa using this
            have g4 := (hall Hg g1 g5 g3).2 i hi
            unfold qOpE at g4
            simp only [ho, hw, if_true] at g4
            obtain ⟨u', ge, gk⟩ := g4
            unfold EH at ge
            simp only [hrk] at ge
            have e3 : Hg.getD H.length undef = v := by
              have := congrArg (fun l => l.getD H.length undef) g2
              simp only [List.length_append, List.length_singleton] at this
              rw [List.getD_eq_getElem?_getD, List.getElem?_take, if_pos (by omega)] at this
              rw [List.getD_eq_getElem?_getD, this]; simp
            rw [ge.1, e3] at gk; exact gk
        unfold Oper.wp
        generalize (execOp a.eval o).run P w = r at *
        cases r with
        | ok n w' =>
          cases n <;> simp only [callUpon] at hc <;> simp only [Oper.upon]
          case enter f args =>
            obtain ⟨e1, hc⟩ := hc
            rw [e1]
            exact hc.mono fun e w'' ⟨v, he, hv⟩ => by subst he; exact hnext v w'' hv
          case value v => exact hnext v w' hc
          case skip => exact hnext undef w' hc
        | halt x w' => simp only [callUpon] at hc
      · simp only [hw] at h5
        have := h5.1
        rw [hrk] at this; cases this

/-! ### one call, two calls -/
def plainB : Callee → Bool
  | .builtin .len | .builtin .cap | .builtin .max | .builtin .min => true
  | _ => false
def plainOp : Op → Bool
  | .call c => plainB c.callee
  | .move _ | .assign _ | .pick _ _ _ | .load _ _ | .binOp _ _ _ _ _ | .unOp _ _ _ | .convert _ _ _ | .extract _ _ | .indexAddr _ _ _ | .fieldAddr _ _ _ | .index _ _ _ | .field _ _ _ | .slice _ _ _ _ _ | .nilCheck _ => true
  | _ => false
theorem andThen_value {r : Result Value} {n : Next} {w' : World} (h : r.andThen (fun a w' => (Pure.pure (Next.value a) : Sem Next).run P w') = .ok n w') : ∃ v, n = .value v := by
  cases r with
  | ok a w => simp at h; exact ⟨a, h.1.symm⟩
  | halt x w => simp at h
theorem andThen_value2 {r : Result Value} {n : Next} {w' : World} (h : r.andThen (fun a w' => Result.ok (Next.value a) w') = .ok n w') : ∃ v, n = .value v := by
  cases r with
  | ok a w => simp at h; exact ⟨a, h.1.symm⟩
  | halt x w => simp at h
theorem deref_halts {n : Next} {w w' : World} (h : (runtimePanic .nilDeref : Sem Next).run P w = .ok n w') : False := by
  simp [runtimePanic, goPanic, go_sem] at h
theorem nilCheck_value {v : Value} {o : Oper} {x : Operand} {ρ : Operand → Value} {n : Next} {w w' : World} (ho : o.op = .nilCheck x) (h : (execOp ρ o).run P w = .ok n w') : ∃ v, n = .value v := by
  unfold execOp at h
  simp only [ho] at h
  split at h
  · exact (deref_halts h).elim
  · exact (deref_halts h).elim
  · exact (deref_halts h).elim
  · split at h
    · exact (deref_halts h).elim
    · simp at h
      generalize Sem.run P (nilAhead _ _ _ _) w = r at h
      cases r with
      | halt y w2 => simp at h
      | ok q w2 =>
        simp only [Result.andThen_ok] at h
        split at h
        · simp at h; exact ⟨_, h.1.symm⟩
        · simp at h
    · simp only [Sem.run_pure, Result.ok.injEq] at h; exact ⟨_, h.1.symm⟩
  · simp only [Sem.run_pure, Result.ok.injEq] at h; exact ⟨_, h.1.symm⟩
theorem plain_run {o : Oper} {ρ : Operand → Value} {w w' : World} {n : Next} (h : plainOp o.op = true) (hr : (execOp ρ o).run P w = .ok n w') : ∃ v, n = .value v := by
  unfold execOp at hr
  cases ho : o.op <;> simp only [ho, plainOp, Bool.false_eq_true] at h <;> simp only [ho] at hr
  case move x => simp at hr; exact ⟨_, hr.1.symm⟩
  case assign x => simp at hr; exact ⟨_, hr.1.symm⟩
  case pick c a b =>
    rw [Sem.run_bind] at hr
    generalize (asBool (ρ c)).run P w = r at hr
    cases r with
    | ok q w2 => simp at hr; exact ⟨_, hr.1.symm⟩
    | halt x w2 => simp at hr
  case call c =>
    unfold plainB at h
    split at h
    · rename_i hb; simp only [resolve, hb, Sem.run_bind, Sem.run_pure, Result.andThen_ok, invoke, builtin] at hr; exact andThen_value2 hr
    · rename_i hb; simp only [resolve, hb, Sem.run_bind, Sem.run_pure, Result.andThen_ok, invoke, builtin] at hr; exact andThen_value2 hr
    · rename_i hb; simp only [resolve, hb, Sem.run_bind, Sem.run_pure, Result.andThen_ok, invoke, builtin] at hr; exact andThen_value2 hr
    · rename_i hb; simp only [resolve, hb, Sem.run_bind, Sem.run_pure, Result.andThen_ok, invoke, builtin] at hr; exact andThen_value2 hr
    · cases h
  case nilCheck x => exact nilCheck_value (v := .nilFunc) ho (by unfold execOp; simp only [ho]; exact hr)
  all_goals (rw [Sem.run_bind] at hr; exact andThen_value hr)
/-- A world of one of the phases from b on. -/
def clsAt (C : List Value → World → Prop) (Hf : List Value) (b : Nat) (w : World) : Prop := ∃ k, b ≤ k ∧ C (Hf.take k) w
theorem lex_one {b k : Nat} {o : Oper} {rest : List Oper} {a : Act} {Q : Act → Prop} (hb : b ≤ lo k) (hrk : rk k = none) (hp : plainOp o.op = true)
    (h : if Region.wanted o (yielded ops a.tmps) then o.quiet P a (clsAt C Hf b) (fun a' => wpLexE P ops C rk lo Hf Q (k + 1) rest a') else wpLexE P ops C rk lo Hf Q (k + 1) rest (a.put o.dst undef)) : wpLexE P ops C rk lo Hf Q k (o :: rest) a := by
  unfold wpLexE
  by_cases hw : Region.wanted o (yielded ops a.tmps) = true
  · simp only [hw, if_true] at h ⊢
    obtain ⟨v, h1, h2⟩ := h
    refine ⟨v, ?_, h2⟩
    unfold EH
    simp only [hrk]
    intro j w hj hC
    have h3 := h1 w ⟨j, Nat.le_trans hb hj, hC⟩
    unfold Oper.quietAt at h3
    have h4 := fun n w' => plain_run (P := P) (o := o) (ρ := a.eval) (w := w) (w' := w') (n := n) hp
    generalize (execOp a.eval o).run P w = r at *
    cases r with
    | ok n w' =>
      obtain ⟨u, rfl⟩ := h4 n w' rfl
      exact h3
    | halt x w' => exact h3.elim
  · simp only [hw] at h ⊢
    exact ⟨hrk, h⟩
/-- The next n operations only read. -/
theorem lex_chunk (b : Nat) : ∀ (n k : Nat) (l : List Oper) (a : Act) {Q : Act → Prop}, (∀ j, j < n → b ≤ lo (k + j)) → ((l.take n).all fun o => plainOp o.op) = true → (∀ j, j < n → rk (k + j) = none) → n ≤ l.length →
    wpQuiet P ops (clsAt C Hf b) (fun a' => wpLexE P ops C rk lo Hf Q (k + n) (l.drop n) a') (l.take n) a → wpLexE P ops C rk lo Hf Q k l a
  | 0, k, l, a, Q, _, _, _, _, h => by simpa [wpQuiet] using h
  | n + 1, k, [], a, Q, _, _, _, hl, _ => by simp at hl
  | n + 1, k, o :: l, a, Q, hb, hp, hrk, hl, h => by
    simp only [List.take_succ_cons, List.all_cons, Bool.and_eq_true] at hp
    simp only [List.length_cons] at hl
    refine lex_one (hb 0 (by omega)) (hrk 0 (by omega)) hp.1 ?_
    simp only [List.take_succ_cons, List.drop_succ_cons, wpQuiet] at h
    have hgo : ∀ a', wpQuiet P ops (clsAt C Hf b) (fun a' => wpLexE P ops C rk lo Hf Q (k + (n + 1)) (l.drop n) a') (l.take n) a' → wpLexE P ops C rk lo Hf Q (k + 1) l a' := fun a' ha =>
      lex_chunk b n (k + 1) l a' (fun j hj => by have := hb (j + 1) (by omega); rwa [show k + (j + 1) = k + 1 + j by omega] at this) hp.2 (fun j hj => by have := hrk (j + 1) (by omega); rwa [show k + (j + 1) = k + 1 + j by omega] at this) (by omega) (by rwa [show k + 1 + n = k + (n + 1) by omega])
    split
    · rename_i hw; simp only [hw, if_true] at h; exact Oper.quiet_mono hgo h
    · rename_i hw; simp only [hw] at h; exact hgo _ h
theorem lex_skip {k : Nat} {o : Oper} {rest : List Oper} {a a' : Act} {Q : Act → Prop} (ha : a.put o.dst undef = a') (hrk : rk k = none) (hw : Region.wanted o (yielded ops a.tmps) = false) (h : wpLexE P ops C rk lo Hf Q (k + 1) rest a') : wpLexE P ops C rk lo Hf Q k (o :: rest) a := by
  unfold wpLexE; rw [if_neg (by rw [hw]; exact Bool.false_ne_true)]; exact ⟨hrk, by rw [ha]; exact h⟩
theorem lex_call {k r : Nat} {o : Oper} {rest : List Oper} {a : Act} {Q : Act → Prop} {v : Value} {a' : Act} (hv : Hf.getD r undef = v) (ha : a.put o.dst v = a') (hrk : rk k = some r) (hw : Region.wanted o (yielded ops a.tmps) = true)
    (hc : ∀ w, C (Hf.take r) w → callUpon P w (fun v w'' => C (Hf.take r ++ [v]) w'') ((execOp a.eval o).run P w)) (h : wpLexE P ops C rk lo Hf Q (k + 1) rest a') : wpLexE P ops C rk lo Hf Q k (o :: rest) a := by
  unfold wpLexE
  rw [if_pos hw]
  refine ⟨Hf.getD r undef, ?_, by rw [hv, ha]; exact h⟩
  unfold EH; simp only [hrk]
  exact ⟨trivial, hc⟩
theorem Calls.ex {f : FuncId} {args : Array Value} {w : World} {R : Ending → World → Prop} (h : Calls P f args w R) : ∃ e w', R e w' := by
  obtain ⟨e, w', _, h1, _⟩ := h []
  exact ⟨e, w', h1⟩
def rk1 (i0 : Nat) (i : Nat) : Option Nat := if i = i0 then some 0 else none
def rk2 (i0 i1 : Nat) (i : Nat) : Option Nat := if i = i0 then some 0 else if i = i1 then some 1 else none
def cls1 (C0 : World → Prop) (C1 : Value → World → Prop) : List Value → World → Prop
  | [], w => C0 w
  | [v], w => C1 v w
  | _, _ => False
def cls2 (C0 : World → Prop) (C1 : Value → World → Prop) (C2 : Value → Value → World → Prop) : List Value → World → Prop
  | [], w => C0 w
  | [v], w => C1 v w
  | [v, u], w => C2 v u w
  | _, _ => False
def lo1 (js : List Nat) (i : Nat) : Nat := if js.contains i = true then 1 else 0
def lo2 (js ks : List Nat) (i : Nat) : Nat := if ks.contains i = true then 2 else if js.contains i = true then 1 else 0
def followsB (ops : Array Oper) (i0 i1 : Nat) : Bool := match ops[i1]? with
  | none => true
  | some o => o.after.any fun e => Region.binds .any e && e.on == i0
theorem follows_spec {i0 i1 : Nat} (h : followsB ops i0 i1 = true) {o : Oper} (ho : ops[i1]? = some o) : ∃ e ∈ o.after, Region.binds .any e = true ∧ e.on = i0 := by
  unfold followsB at h
  rw [ho] at h
  simp only [Array.any_eq_true', Bool.and_eq_true, beq_iff_eq] at h
  exact h
theorem wp_region_call1 {id : Nat} {Q : Exit → Act → World → Prop} {a : Act} {w : World} {l : List Oper} (i0 : Nat) (js : List Nat) {C0 : World → Prop} {C1 : Value → World → Prop} (hm : P.follows .mixedOrders = true) (hB : Region.lexB .any l.toArray = true) (hi : i0 < l.length) (hjs : (js.all fun j => followsB l.toArray i0 j) = true)
    (hC : C0 w.drew) (hex : ∀ w, C0 w → ∃ v w', C1 v w')
    (h : ∀ v, (∃ w', C1 v w') → wpLexE P l.toArray (cls1 C0 C1) (rk1 i0) (lo1 js) [v] (fun a' => ∀ w', C1 v w' → Q .normal a' w') 0 l a) : (Code.region id l.toArray true).wp P Q a w := by
  simp only [Region.lexB, Bool.and_eq_true] at hB
  refine wp_region_any hm ?_
  refine wpAny_of_E (C := cls1 C0 C1) (rk := rk1 i0) (lo := lo1 js) (m := 1) (Q := fun Hf a' => ∀ w', cls1 C0 C1 Hf w' → Q .normal a' w') (fun H w hC hl => ?_) (fun i j s h1 h2 => ?_) (fun s hs => ⟨i0, by unfold rk1; simp; omega⟩) (fun i s h1 => ?_) (fun i s o h1 => ?_) (fun i s h1 => ?_) (fun i s o _ h1 ho => ?_) (fun Hf a w _ hC hq => hq w hC) _ (Array.replicate l.toArray.size false) a [] _ (by simp) hC (by simp) (fun i s h1 => ?_) (fun Hf hl _ hx => ?_)
  · obtain rfl : H = [] := List.length_eq_zero_iff.1 (by omega)
    exact hex w hC
  · unfold rk1 at h1 h2; split at h1 <;> split at h2 <;> simp_all
  · unfold rk1 at h1; split at h1 <;> simp_all
  · unfold rk1 at h1; split at h1 <;> simp_all
  · unfold rk1 at h1; split at h1 <;> simp_all
  · unfold lo1 at h1
    split at h1
    · rename_i hc
      obtain rfl : s = 0 := by omega
      rw [List.all_eq_true] at hjs
      have := hjs i (by simpa using hc)
      exact ⟨i0, by unfold rk1; rw [if_pos rfl], follows_spec this ho⟩
    · cases h1
  · unfold rk1 at h1; split at h1
    · subst i; simp [hi]
    · cases h1
  · match Hf, hl with
    | [v], _ => exact wpAnyE_lex (md := .any) hB.1 (fun i s h1 => by unfold rk1 at h1; split at h1 <;> simp_all) l.toArray.toList 0 (Array.replicate l.toArray.size false) a (by simp) (fun i s _ h => absurd h (Nat.not_lt_zero _)) (by simpa using hB.2) (h v hx)
theorem wp_region_call2 {id : Nat} {Q : Exit → Act → World → Prop} {a : Act} {w : World} {l : List Oper} (i0 i1 : Nat) (js ks : List Nat) {C0 : World → Prop} {C1 : Value → World → Prop} {C2 : Value → Value → World → Prop} (hm : P.follows .mixedOrders = true) (hB : Region.lexB .any l.toArray = true) (hi : i0 < i1) (hi1 : i1 < l.length)
    (hf : followsB l.toArray i0 i1 = true) (hjs : (js.all fun j => followsB l.toArray i0 j) = true) (hks : (ks.all fun j => followsB l.toArray i1 j) = true) (hC : C0 w.drew) (hex : ∀ w, C0 w → ∃ v w', C1 v w') (hex2 : ∀ v w, C1 v w → ∃ u w', C2 v u w')
    (h : ∀ v u, (∃ w', C2 v u w') → wpLexE P l.toArray (cls2 C0 C1 C2) (rk2 i0 i1) (lo2 js ks) [v, u] (fun a' => ∀ w', C2 v u w' → Q .normal a' w') 0 l a) : (Code.region id l.toArray true).wp P Q a w := by
  simp only [Region.lexB, Bool.and_eq_true] at hB
  have hr0 : ∀ i, rk2 i0 i1 i = some 0 → i = i0 := fun i h => by
    unfold rk2 at h
    by_cases e : i = i0
    · exact e
    · rw [if_neg e] at h; split at h <;> cases h
  have hr1 : ∀ i, rk2 i0 i1 i = some 1 → i = i1 := fun i h => by
    unfold rk2 at h
    by_cases e : i = i0
    · rw [if_pos e] at h; cases h
    · rw [if_neg e] at h
      by_cases e1 : i = i1
      · exact e1
      · rw [if_neg e1] at h; cases h
  have hr2 : ∀ i s, rk2 i0 i1 i = some s → s < 2 := fun i s h => by
    unfold rk2 at h
    split at h
    · cases h; omega
    · split at h
      · cases h; omega
      · cases h
  have hsz : ∀ i s, rk2 i0 i1 i = some s → i < l.toArray.size := fun i s h => by
    have hs := hr2 i s h
    simp only [List.size_toArray]
    rcases Nat.eq_zero_or_pos s with e | e
    · subst e; have := hr0 i h; omega
    · obtain rfl : s = 1 := by omega
      have := hr1 i h; omega
  refine wp_region_any hm ?_
  refine wpAny_of_E (C := cls2 C0 C1 C2) (rk := rk2 i0 i1) (lo := lo2 js ks) (m := 2) (Q := fun Hf a' => ∀ w', cls2 C0 C1 C2 Hf w' → Q .normal a' w') (fun H w hC hl => ?_) (fun i j s h1 h2 => ?_) (fun s hs => ?_) hr2 (fun i s o h1 ho => ?_) hsz (fun i s o _ h1 ho => ?_) (fun Hf a w _ hC hq => hq w hC) _ (Array.replicate l.toArray.size false) a [] _ (by simp) hC (by simp) (fun i s h1 => ?_) (fun Hf hl _ hx => ?_)
  · match H, hl with
    | [], _ => exact hex w hC
    | [v], _ => exact hex2 v w hC
  · have hs := hr2 i s h1
    rcases Nat.eq_zero_or_pos s with e | e
    · subst e; rw [hr0 i h1, hr0 j h2]
    · obtain rfl : s = 1 := by omega
      rw [hr1 i h1, hr1 j h2]
  · rcases Nat.eq_zero_or_pos s with e | e
    · subst e; exact ⟨i0, by unfold rk2; rw [if_pos rfl]⟩
    · obtain rfl : s = 1 := by omega
      exact ⟨i1, by unfold rk2; rw [if_neg (by omega), if_pos rfl]⟩
  · have hs := hr2 i _ h1
    obtain rfl : s = 0 := by omega
    have hi := hr1 i h1
    subst hi
    exact ⟨i0, by unfold rk2; rw [if_pos rfl], follows_spec hf ho⟩
  · unfold lo2 at h1
    rw [List.all_eq_true] at hjs hks
    split at h1
    · rename_i hc
      obtain rfl : s = 1 := by omega
      exact ⟨i1, by unfold rk2; rw [if_neg (by omega), if_pos rfl], follows_spec (hks i (by simpa using hc)) ho⟩
    · split at h1
      · rename_i _ hc
        obtain rfl : s = 0 := by omega
        exact ⟨i0, by unfold rk2; rw [if_pos rfl], follows_spec (hjs i (by simpa using hc)) ho⟩
      · cases h1
  · have := hsz i s h1
    simp only [List.size_toArray] at this
    simp [this]
  · match Hf, hl with
    | [v, u], _ => exact wpAnyE_lex (md := .any) hB.1 hsz l.toArray.toList 0 (Array.replicate l.toArray.size false) a (by simp) (fun i s _ h => absurd h (Nat.not_lt_zero _)) (by simpa using hB.2) (h v u hx)
theorem callUpon_mk {w : World} {V : Value → World → Prop} {r : Result Next} {f : FuncId} {args : Array Value} (h : r = .ok (.enter f args) w) (hc : Calls P f args w (fun e w'' => ∃ v, e = .returned v ∧ V v w'')) : callUpon P w V r := by
  rw [h]; exact ⟨rfl, hc⟩
theorem cls1_at0 {C0 : World → Prop} {C1 : Value → World → Prop} {v : Value} {w : World} : clsAt (cls1 C0 C1) [v] 0 w → C0 w ∨ C1 v w
  | ⟨0, _, h⟩ => .inl h
  | ⟨1, _, h⟩ => .inr h
  | ⟨_ + 2, _, h⟩ => .inr h
theorem cls1_at1 {C0 : World → Prop} {C1 : Value → World → Prop} {v : Value} {w : World} : clsAt (cls1 C0 C1) [v] 1 w → C1 v w
  | ⟨0, h0, _⟩ => absurd h0 (by omega)
  | ⟨1, _, h⟩ => h
  | ⟨_ + 2, _, h⟩ => h
theorem cls2_at0 {C0 : World → Prop} {C1 : Value → World → Prop} {C2 : Value → Value → World → Prop} {v u : Value} {w : World} : clsAt (cls2 C0 C1 C2) [v, u] 0 w → C0 w ∨ C1 v w ∨ C2 v u w
  | ⟨0, _, h⟩ => .inl h
  | ⟨1, _, h⟩ => .inr (.inl h)
  | ⟨2, _, h⟩ => .inr (.inr h)
  | ⟨_ + 3, _, h⟩ => .inr (.inr h)
theorem cls2_at1 {C0 : World → Prop} {C1 : Value → World → Prop} {C2 : Value → Value → World → Prop} {v u : Value} {w : World} : clsAt (cls2 C0 C1 C2) [v, u] 1 w → C1 v w ∨ C2 v u w
  | ⟨0, h0, _⟩ => absurd h0 (by omega)
  | ⟨1, _, h⟩ => .inl h
  | ⟨2, _, h⟩ => .inr h
  | ⟨_ + 3, _, h⟩ => .inr h
theorem cls2_at2 {C0 : World → Prop} {C1 : Value → World → Prop} {C2 : Value → Value → World → Prop} {v u : Value} {w : World} : clsAt (cls2 C0 C1 C2) [v, u] 2 w → C2 v u w
  | ⟨0, h0, _⟩ => absurd h0 (by omega)
  | ⟨1, h0, _⟩ => absurd h0 (by omega)
  | ⟨2, _, h⟩ => h
  | ⟨_ + 3, _, h⟩ => h
end
end Go.Proofs.Ytjmdibgncaljaaa

/-! QR's law under a fence. -/
namespace Go.Proofs.Ytjmdibgncaljaaa
open Go
section
variable {P : Program} {ops : Array Oper} {md : Region.Mode} {C : List Value → World → Prop} {rk : Nat → Option Nat} {lo : Nat → Nat} {m : Nat} {Hf : List Value}
theorem wpAnyIn_of_E {F : Fence} {n : Nat} {Q : List Value → Act → Prop} {Q' : Exit → Act → World → Prop} (hex : ∀ H w, C H w → H.length < m → ∃ v w', C (H ++ [v]) w')
    (hinj : ∀ i j s, rk i = some s → rk j = some s → i = j) (hsur : ∀ s, s < m → ∃ i, rk i = some s) (hbd : ∀ i s, rk i = some s → s < m)
    (hord : ∀ i s o, rk i = some (s + 1) → ops[i]? = some o → ∃ j, rk j = some s ∧ ∃ e ∈ o.after, Region.binds md e = true ∧ e.on = j)
    (hsz : ∀ i s, rk i = some s → i < ops.size)
    (hlo : ∀ i s o, rk i = none → lo i = s + 1 → ops[i]? = some o → ∃ j, rk j = some s ∧ ∃ e ∈ o.after, Region.binds md e = true ∧ e.on = j)
    (hfn : ∀ f, F.fn f) (hdep : F.depth.isSome = true → 1 ≤ n) (hnd : ∀ (i : Nat) (o : Oper), ops[i]? = some o → ∀ c, o.op ≠ .defer c) (hci : ∀ (f : FuncId) (args : Array Value) (w : World) (R : Ending → World → Prop), Calls P f args w R → CallsIn F (n - 1) P f args w R)
    (hQ : ∀ Hf a w, Hf.length = m → C Hf w → Q Hf a → Q' .normal a w) : ∀ (fuel : Nat) (listed : Array Bool) (a : Act) (H : List Value) (w : World), listed.size = ops.size → C H w → H.length ≤ m →
    (∀ i s, rk i = some s → listed.getD i true = decide (s < H.length)) →
    (∀ Hf, Hf.length = m → Hf.take H.length = H → (∃ w', C Hf w') → wpAnyE P md ops C rk lo Hf (Q Hf) fuel listed a) → wpAnyIn F n P md ops Q' fuel listed a w := by
  have hend : ∀ (listed : Array Bool) (a : Act) (H : List Value) (w : World), C H w → H.length ≤ m → (∀ i s, rk i = some s → listed.getD i true = decide (s < H.length)) → ∀ Hf, Hf.length = m → Hf.take H.length = H → allDone rk listed → Q Hf a → Q' .normal a w := fun listed a H w hC hm hinv Hf hl ht hd hq => by
    have e : H.length = m := by
      rcases Nat.lt_or_ge H.length m with h | h
      · obtain ⟨i, hi⟩ := hsur H.length h
        have h1 := hinv i _ hi
        rw [hd i _ hi] at h1
        simp at h1
      · omega
    have e2 : Hf = H := by rw [← ht, e, ← hl, List.take_length]
    rw [e2] at hq
    exact hQ H a w e hC hq
  intro fuel
  induction fuel with
  | zero =>
    intro listed a H w _ hC hm hinv hall
    obtain ⟨Hf, h1, h2, h3⟩ := extendH hex (m - H.length) H w hC (by omega)
    have h4 := hall Hf h1 h2 h3
    exact ⟨h4.1, hend listed a H w hC hm hinv Hf h1 h2 h4.2.1 h4.2.2⟩
  | succ fuel ih =>
    intro listed a H w hls hC hm hinv hall
    obtain ⟨Hf, h1, h2, h3⟩ := extendH hex (m - H.length) H w hC (by omega)
    have h4 := hall Hf h1 h2 h3
    refine ⟨fun hr => hend listed a H w hC hm hinv Hf h1 h2 (h4.1 hr).1 (h4.1 hr).2, fun i hi => ?_⟩
    have h5 := h4.2 i hi
    obtain ⟨hun, o, ho, hedge⟩ := mem_ready.1 hi
    unfold qOpE at h5
    simp only [ho] at h5
    unfold wpOpIn
    simp only [ho]
    have hsem : o.semAt F.round a.eval = execOp a.eval o := by
      cases F.round with
      | none => rfl
      | some l => exact Oper.semAt_some l _ _ (hnd i o ho)
    have hls' : (listed.setIfInBounds i true).size = ops.size := by simpa using hls
    have hreach : ∀ j s e, rk j = some s → e ∈ o.after → Region.binds md e = true → e.on = j → s < H.length := fun j s e hj he1 he2 he3 => by
      have h6 := hedge e he1 he2
      rw [he3] at h6
      have h7 := hinv j s hj
      have h8 : listed.getD j true = true := by
        have hjs : j < listed.size := by rw [hls]; exact hsz j s hj
        simp [hjs] at h6 ⊢; exact h6
      rw [h8] at h7
      exact of_decide_eq_true h7.symm
    cases hrk : rk i with
    | none =>
      have hlH : lo i ≤ H.length := by
        cases hlo1 : lo i with
        | zero => omega
        | succ s' =>
          obtain ⟨j, hj, e, he1, he2, he3⟩ := hlo i s' o hrk hlo1 ho
          have := hreach j s' e hj he1 he2 he3
          omega
      have hinv' : ∀ j s, rk j = some s → (listed.setIfInBounds i true).getD j true = decide (s < H.length) := fun j s hj => by
        rw [getD_set_ne true (fun e => by subst e; rw [hrk] at hj; cases hj)]; exact hinv j s hj
      by_cases hw : Region.wanted o (yielded ops a.tmps) = true
      · simp only [hw, if_true] at h5 ⊢
        obtain ⟨u, he, _⟩ := h5
        have hp : pureUpon w u ((execOp a.eval o).run P w) := by
          unfold EH at he; simp only [hrk] at he
          exact he H.length w hlH (by rw [h2]; exact hC)
        have hnext : wpAnyIn F n P md ops Q' fuel (listed.setIfInBounds i true) (a.put o.dst u) w := by
          refine ih _ _ H w hls' hC hm hinv' (fun Hg g1 g2 g3 => ?_)
          have g4 := (hall Hg g1 g2 g3).2 i hi
          unfold qOpE at g4
          simp only [ho, hw, if_true] at g4
          obtain ⟨u', ge, gk⟩ := g4
          have gp : pureUpon w u' ((execOp a.eval o).run P w) := by
            unfold EH at ge; simp only [hrk] at ge
            exact ge H.length w hlH (by rw [g2]; exact hC)
          rw [pureUpon_one hp gp]; exact gk
        unfold Oper.wpIn
        refine ⟨fun f _ => hfn f, ?_⟩
        rw [hsem]
        generalize (execOp a.eval o).run P w = r at *
        cases r with
        | ok n w' =>
          cases n <;> simp only [pureUpon] at hp <;> simp only [Oper.uponIn]
          case value x => obtain ⟨e1, e2⟩ := hp; rw [e1, e2]; exact hnext
          case skip => obtain ⟨e1, e2⟩ := hp; rw [e1, ← e2]; exact hnext
        | halt x w' => simp only [pureUpon] at hp
      · simp only [hw] at h5 ⊢
        refine ⟨fun f _ => hfn f, ?_⟩
        refine ih _ _ H w hls' hC hm hinv' (fun Hg g1 g2 g3 => ?_)
        have g4 := (hall Hg g1 g2 g3).2 i hi
        unfold qOpE at g4
        simp only [ho, hw] at g4
        exact g4.2
    | some s =>
      by_cases hw : Region.wanted o (yielded ops a.tmps) = true
      · simp only [hw, if_true] at h5 ⊢
        have hge : ¬ s < H.length := fun h => by
          have := hinv i s hrk
          rw [decide_eq_true h, hun] at this; cases this
        have hle : s ≤ H.length := by
          cases s with
          | zero => omega
          | succ s' =>
            obtain ⟨j, hj, e, he1, he2, he3⟩ := hord i s' o hrk ho
            have := hreach j s' e hj he1 he2 he3
            omega
        have hs : s = H.length := by omega
        subst hs
        obtain ⟨u, he, _⟩ := h5
        have hc : callUpon P w (fun v w'' => C (H ++ [v]) w'') ((execOp a.eval o).run P w) := by
          unfold EH at he; simp only [hrk] at he
          have := he.2 w (by rw [h2]; exact hC)
          rw [h2] at this; exact this
        have hsm := hbd i _ hrk
        have hnext : ∀ v w'', C (H ++ [v]) w'' → wpAnyIn F n P md ops Q' fuel (listed.setIfInBounds i true) (a.put o.dst v) w'' := fun v w'' hv => by
          refine ih _ _ (H ++ [v]) w'' hls' hv (by simp; omega) (fun j s hj => ?_) (fun Hg g1 g2 g3 => ?_)
          · by_cases e : i = j
            · subst e
              rw [hrk] at hj; cases hj
              rw [getD_set_eq]; simp
            · rw [getD_set_ne true e, hinv j s hj]
              have hne : s ≠ H.length := fun h => e (by subst h; exact hinj _ _ _ hrk hj)
              simp only [List.length_append, List.length_singleton, decide_eq_decide]
              omega
          · have g5 : Hg.take H.length = H := by
              have := congrArg (List.take H.length) g2
              rw [List.take_take] at this
              simpa using this
            have g4 := (hall Hg g1 g5 g3).2 i hi
            unfold qOpE at g4
            simp only [ho, hw, if_true] at g4
            obtain ⟨u', ge, gk⟩ := g4
            unfold EH at ge
            simp only [hrk] at ge
            have e3 : Hg.getD H.length undef = v := by
              have := congrArg (fun l => l.getD H.length undef) g2
              simp only [List.length_append, List.length_singleton] at this
              rw [List.getD_eq_getElem?_getD, List.getElem?_take, if_pos (by omega)] at this
              rw [List.getD_eq_getElem?_getD, this]; simp
            rw [ge.1, e3] at gk; exact gk
        unfold Oper.wpIn
        refine ⟨fun f _ => hfn f, ?_⟩
        rw [hsem]
        generalize (execOp a.eval o).run P w = r at *
        cases r with
        | ok n w' =>
          cases n <;> simp only [callUpon] at hc <;> simp only [Oper.uponIn]
          case enter f args =>
            obtain ⟨e1, hc⟩ := hc
            rw [e1]
            exact ⟨hdep, (hci _ _ _ _ hc).mono fun e w'' ⟨v, he, hv⟩ => by subst he; exact hnext v w'' hv⟩
          case value v => exact hnext v w' hc
          case skip => exact hnext undef w' hc
        | halt x w' => simp only [callUpon] at hc
      · simp only [hw] at h5
        have := h5.1
        rw [hrk] at this; cases this
theorem wpIn_region_call1 {F : Fence} {n : Nat} (hfn : ∀ f, F.fn f) (hdep : F.depth.isSome = true → 1 ≤ n) (hci : ∀ (f : FuncId) (args : Array Value) (w : World) (R : Ending → World → Prop), Calls P f args w R → CallsIn F (n - 1) P f args w R) {id : Nat} {Q : Exit → Act → World → Prop} {a : Act} {w : World} {l : List Oper} (i0 : Nat) (js : List Nat) {C0 : World → Prop} {C1 : Value → World → Prop} (hm : P.follows .mixedOrders = true) (hB : Region.lexB .any l.toArray = true) (hi : i0 < l.length) (hnd : ∀ (i : Nat) (o : Oper), l.toArray[i]? = some o → ∀ c, o.op ≠ .defer c) (hjs : (js.all fun j => followsB l.toArray i0 j) = true)
    (hC : C0 w.drew) (hex : ∀ w, C0 w → ∃ v w', C1 v w')
    (h : ∀ v, (∃ w', C1 v w') → wpLexE P l.toArray (cls1 C0 C1) (rk1 i0) (lo1 js) [v] (fun a' => ∀ w', C1 v w' → Q .normal a' w') 0 l a) : (Code.region id l.toArray true).wpIn F n P Q a w := by
  simp only [Region.lexB, Bool.and_eq_true] at hB
  refine wpIn_region_any hm ?_
  refine wpAnyIn_of_E (F := F) (n := n) (C := cls1 C0 C1) (rk := rk1 i0) (lo := lo1 js) (m := 1) (Q := fun Hf a' => ∀ w', cls1 C0 C1 Hf w' → Q .normal a' w') (fun H w hC hl => ?_) (fun i j s h1 h2 => ?_) (fun s hs => ⟨i0, by unfold rk1; simp; omega⟩) (fun i s h1 => ?_) (fun i s o h1 => ?_) (fun i s h1 => ?_) (fun i s o _ h1 ho => ?_) hfn hdep hnd hci (fun Hf a w _ hC hq => hq w hC) _ (Array.replicate l.toArray.size false) a [] _ (by simp) hC (by simp) (fun i s h1 => ?_) (fun Hf hl _ hx => ?_)
  · obtain rfl : H = [] := List.length_eq_zero_iff.1 (by omega)
    exact hex w hC
  · unfold rk1 at h1 h2; split at h1 <;> split at h2 <;> simp_all
  · unfold rk1 at h1; split at h1 <;> simp_all
  · unfold rk1 at h1; split at h1 <;> simp_all
  · unfold rk1 at h1; split at h1 <;> simp_all
  · unfold lo1 at h1
    split at h1
    · rename_i hc
      obtain rfl : s = 0 := by omega
      rw [List.all_eq_true] at hjs
      have := hjs i (by simpa using hc)
      exact ⟨i0, by unfold rk1; rw [if_pos rfl], follows_spec this ho⟩
    · cases h1
  · unfold rk1 at h1; split at h1
    · subst i; simp [hi]
    · cases h1
  · match Hf, hl with
    | [v], _ => exact wpAnyE_lex (md := .any) hB.1 (fun i s h1 => by unfold rk1 at h1; split at h1 <;> simp_all) l.toArray.toList 0 (Array.replicate l.toArray.size false) a (by simp) (fun i s _ h => absurd h (Nat.not_lt_zero _)) (by simpa using hB.2) (h v hx)
/-! ### any number of steps -/
/-- The steps of the region that do more than read, by their indices; the phases of some others. -/
def rkL (is : List Nat) (i : Nat) : Option Nat := is.idxOf? i
def loL (js : List (Nat × Nat)) (i : Nat) : Nat := ((js.find? fun p => p.1 == i).map (·.2)).getD 0
def stepsB (ops : Array Oper) (is : List Nat) (js : List (Nat × Nat)) : Bool :=
  decide is.Nodup && (is.all fun i => decide (i < ops.size)) && ((List.range (is.length - 1)).all fun s => followsB ops (is.getD s 0) (is.getD (s + 1) 0)) &&
  (js.all fun p => decide (0 < p.2) && decide (p.2 - 1 < is.length) && followsB ops (is.getD (p.2 - 1) 0) p.1)
theorem rkL_some {is : List Nat} {i s : Nat} (h : rkL is i = some s) : s < is.length ∧ is.getD s 0 = i := by
  unfold rkL at h
  rw [List.idxOf?_eq_some_iff] at h
  obtain ⟨h1, h2, _⟩ := h
  exact ⟨h1, by rw [List.getD, List.getElem?_eq_getElem h1]; exact h2⟩
theorem rkL_at {is : List Nat} (hn : is.Nodup) {s : Nat} (hs : s < is.length) : rkL is (is.getD s 0) = some s := by
  unfold rkL
  rw [List.idxOf?_eq_some_iff]
  have e : is.getD s 0 = is[s] := by rw [List.getD, List.getElem?_eq_getElem hs]; rfl
  refine ⟨hs, e.symm, fun j hj hh => ?_⟩
  rw [e] at hh
  exact List.pairwise_iff_getElem.1 hn j s (Nat.lt_trans hj hs) hs hj hh
theorem loL_pos {js : List (Nat × Nat)} {i s : Nat} (h : loL js i = s + 1) : ∃ p ∈ js, p.1 = i ∧ p.2 = s + 1 := by
  unfold loL at h
  cases hf : js.find? fun p => p.1 == i with
  | none => rw [hf] at h; cases h
  | some p =>
    rw [hf] at h
    have h1 := List.find?_some hf
    have h2 := List.mem_of_find?_eq_some hf
    simp at h1
    exact ⟨p, h2, h1, h⟩
theorem wp_region_steps {id : Nat} {Q : Exit → Act → World → Prop} {a : Act} {w : World} {l : List Oper} (is : List Nat) (js : List (Nat × Nat)) (C : List Value → World → Prop) (hm : P.follows .mixedOrders = true) (hB : Region.lexB .any l.toArray = true) (hS : stepsB l.toArray is js = true)
    (hC : C [] w.drew) (hex : ∀ H w, C H w → H.length < is.length → ∃ v w', C (H ++ [v]) w')
    (h : ∀ Hf, Hf.length = is.length → (∃ w', C Hf w') → wpLexE P l.toArray C (rkL is) (loL js) Hf (fun a' => ∀ w', C Hf w' → Q .normal a' w') 0 l a) : (Code.region id l.toArray true).wp P Q a w := by
  simp only [Region.lexB, Bool.and_eq_true] at hB
  simp only [stepsB, Bool.and_eq_true, decide_eq_true_eq, List.all_eq_true] at hS
  obtain ⟨⟨⟨hnd, hsz⟩, hfo⟩, hjs⟩ := hS
  have hszI : ∀ i s, rkL is i = some s → i < l.toArray.size := fun i s h1 => by
    obtain ⟨h2, h3⟩ := rkL_some h1
    have h4 := hsz (is.getD s 0) (by rw [List.getD, List.getElem?_eq_getElem h2]; exact List.getElem_mem h2)
    rw [h3] at h4
    exact h4
  refine wp_region_any hm ?_
  refine wpAny_of_E (C := C) (rk := rkL is) (lo := loL js) (m := is.length) (Q := fun Hf a' => ∀ w', C Hf w' → Q .normal a' w') hex (fun i j s h1 h2 => ?_) (fun s hs => ⟨_, rkL_at hnd hs⟩) (fun i s h1 => (rkL_some h1).1) (fun i s o h1 ho => ?_) hszI (fun i s o _ h1 ho => ?_) (fun Hf a w _ hC hq => hq w hC) _ (Array.replicate l.toArray.size false) a [] _ (by simp) hC (by simp) (fun i s h1 => ?_) (fun Hf hl _ hx => ?_)
  · rw [← (rkL_some h1).2, ← (rkL_some h2).2]
  · obtain ⟨h2, h3⟩ := rkL_some h1
    have h4 := hfo s (List.mem_range.2 (by omega))
    rw [h3] at h4
    exact ⟨_, rkL_at hnd (by omega), follows_spec h4 ho⟩
  · obtain ⟨p, hp, h2, h3⟩ := loL_pos h1
    have h4 := hjs p hp
    rw [h3, h2] at h4
    exact ⟨_, rkL_at hnd h4.1.2, follows_spec h4.2 ho⟩
  · have := hszI i s h1
    simp only [List.size_toArray] at this
    simp [this]
  · exact wpAnyE_lex (md := .any) hB.1 hszI l.toArray.toList 0 (Array.replicate l.toArray.size false) a (by simp) (fun i s _ h => absurd h (Nat.not_lt_zero _)) (by simpa using hB.2) (h Hf hl hx)
theorem wpIn_region_steps {F : Fence} {n : Nat} (hfn : ∀ f, F.fn f) (hdep : F.depth.isSome = true → 1 ≤ n) (hci : ∀ (f : FuncId) (args : Array Value) (w : World) (R : Ending → World → Prop), Calls P f args w R → CallsIn F (n - 1) P f args w R) {id : Nat} {Q : Exit → Act → World → Prop} {a : Act} {w : World} {l : List Oper} (is : List Nat) (js : List (Nat × Nat)) (C : List Value → World → Prop) (hm : P.follows .mixedOrders = true) (hB : Region.lexB .any l.toArray = true) (hS : stepsB l.toArray is js = true) (hdf : ∀ (i : Nat) (o : Oper), l.toArray[i]? = some o → ∀ c, o.op ≠ .defer c)
    (hC : C [] w.drew) (hex : ∀ H w, C H w → H.length < is.length → ∃ v w', C (H ++ [v]) w')
    (h : ∀ Hf, Hf.length = is.length → (∃ w', C Hf w') → wpLexE P l.toArray C (rkL is) (loL js) Hf (fun a' => ∀ w', C Hf w' → Q .normal a' w') 0 l a) : (Code.region id l.toArray true).wpIn F n P Q a w := by
  simp only [Region.lexB, Bool.and_eq_true] at hB
  simp only [stepsB, Bool.and_eq_true, decide_eq_true_eq, List.all_eq_true] at hS
  obtain ⟨⟨⟨hnd, hsz⟩, hfo⟩, hjs⟩ := hS
  have hszI : ∀ i s, rkL is i = some s → i < l.toArray.size := fun i s h1 => by
    obtain ⟨h2, h3⟩ := rkL_some h1
    have h4 := hsz (is.getD s 0) (by rw [List.getD, List.getElem?_eq_getElem h2]; exact List.getElem_mem h2)
    rw [h3] at h4
    exact h4
  refine wpIn_region_any hm ?_
  refine wpAnyIn_of_E (F := F) (n := n) (C := C) (rk := rkL is) (lo := loL js) (m := is.length) (Q := fun Hf a' => ∀ w', C Hf w' → Q .normal a' w') hex (fun i j s h1 h2 => ?_) (fun s hs => ⟨_, rkL_at hnd hs⟩) (fun i s h1 => (rkL_some h1).1) (fun i s o h1 ho => ?_) hszI (fun i s o _ h1 ho => ?_) hfn hdep hdf hci (fun Hf a w _ hC hq => hq w hC) _ (Array.replicate l.toArray.size false) a [] _ (by simp) hC (by simp) (fun i s h1 => ?_) (fun Hf hl _ hx => ?_)
  · rw [← (rkL_some h1).2, ← (rkL_some h2).2]
  · obtain ⟨h2, h3⟩ := rkL_some h1
    have h4 := hfo s (List.mem_range.2 (by omega))
    rw [h3] at h4
    exact ⟨_, rkL_at hnd (by omega), follows_spec h4 ho⟩
  · obtain ⟨p, hp, h2, h3⟩ := loL_pos h1
    have h4 := hjs p hp
    rw [h3, h2] at h4
    exact ⟨_, rkL_at hnd h4.1.2, follows_spec h4.2 ho⟩
  · have := hszI i s h1
    simp only [List.size_toArray] at this
    simp [this]
  · exact wpAnyE_lex (md := .any) hB.1 hszI l.toArray.toList 0 (Array.replicate l.toArray.size false) a (by simp) (fun i s _ h => absurd h (Nat.not_lt_zero _)) (by simpa using hB.2) (h Hf hl hx)
/-- A step that gives a value and a world. -/
theorem callUpon_value {w w' : World} {V : Value → World → Prop} {r : Result Next} {v : Value} (h : r = .ok (.value v) w') (hc : V v w') : callUpon P w V r := by
  rw [h]; exact hc
theorem callUpon_skip {w w' : World} {V : Value → World → Prop} {r : Result Next} (h : r = .ok .skip w') (hc : V undef w') : callUpon P w V r := by
  rw [h]; exact hc
end
end Go.Proofs.Ytjmdibgncaljaaa
