/- Plain: the law PlanHolds of one column. -/
import Derived.Test.YtgnoikfmhncbmaaGreatDoorV5
set_option linter.unusedVariables false
set_option linter.unusedSimpArgs false
namespace Go.Proofs.YtgnoikfmhncbmaaGreatDoor
open Go.RowKit Go.Lib
theorem nl_ite {c : Prop} [Decidable c] {a b : RV} (h : (if c then a else b).nl = false) : a.nl = false ∨ b.nl = false := by
  split at h
  · exact .inl h
  · exact .inr h
theorem nn_and {a b : RV} : ((lowA a b).nl = false → a.nl = false ∨ b.nl = false) ∧ ((highA a b).nl = false → a.nl = false ∨ b.nl = false) := by
  unfold lowA highA
  constructor <;> intro h <;> (repeat' split at h) <;> first | exact .inl h | exact .inr h
theorem nn_or {a b : RV} : ((lowO a b).nl = false → a.nl = false ∧ b.nl = false) ∧ ((highO a b).nl = false → a.nl = false ∧ b.nl = false) := by
  unfold lowO highO
  constructor <;> intro h <;> (cases h1 : a.nl <;> cases h2 : b.nl <;> simp_all [RVN])
theorem sound_nn (cs : List CV) (col : ByteArray) (R : ByteArray → RV) : ∀ {t : AT}, wfP cs t → evP R t = 2 → ((bndP col t).lo.nl = false → (R col).nl = false) ∧ ((bndP col t).hi.nl = false → (R col).nl = false)
  | .nil, _, h => by cases h
  | .node b op c x l r, ⟨h0, h1, h2⟩, h => by
    unfold bndP
    split
    · rename_i hp
      have hop := pair_op hp
      have rl := evP_range R l
      have rr := evP_range R r
      rcases hop with rfl | rfl
      · rw [if_pos rfl]
        have e : evP R l = 2 ∧ evP R r = 2 := by
          unfold evP at h; rw [if_pos rfl] at h; omega
        have gl := sound_nn cs col R (h1 (by omega)) e.1
        have gr := sound_nn cs col R (h2 (by omega)) e.2
        exact ⟨fun q => (nn_and.1 q).elim gl.1 gr.1, fun q => (nn_and.2 q).elim gl.2 gr.2⟩
      · rw [if_neg (by decide)]
        have e : evP R l = 2 ∨ evP R r = 2 := by
          unfold evP at h; rw [if_neg (by decide), if_pos rfl] at h; omega
        rcases e with e | e
        · have g := sound_nn cs col R (h1 (by omega)) e
          exact ⟨fun q => g.1 (nn_or.1 q).1, fun q => g.2 (nn_or.2 q).1⟩
        · have g := sound_nn cs col R (h2 (by omega)) e
          exact ⟨fun q => g.1 (nn_or.1 q).2, fun q => g.2 (nn_or.2 q).2⟩
    · rename_i hp
      have hop := pair_not h0 hp
      by_cases hc : c = col
      · subst hc
        by_cases h3 : op = 3
        · subst h3
          have : simpP 3 c c x = spN false := by unfold simpP; split <;> rfl
          rw [this]
          exact ⟨(fun q => by cases q), (fun q => by cases q)⟩
        · by_cases h10 : op = 10
          · subst h10
            have : simpP 10 c c x = spN false := by unfold simpP; split <;> rfl
            rw [this]
            exact ⟨(fun q => by cases q), (fun q => by cases q)⟩
          · unfold evP at h
            rw [if_neg (by omega), if_neg (by omega), if_neg h3] at h
            obtain ⟨g, _, _⟩ := testP_two h10 h
            exact ⟨fun _ => g, fun _ => g⟩
      · rw [simp_other hc]
        exact ⟨(fun q => by cases q), (fun q => by cases q)⟩
theorem ty_form {v : RV} (h : formP v = 0) : 1 ≤ v.ty ∧ v.ty ≤ 3 := (form_parts h).1
theorem holds_row1 {cs : List CV} {col : ByteArray} {k : Nat} (hk : kindP cs col = some k) (R : ByteArray → RV) {v : RV} (hR : R col = v) (ht : v.ty = k) (hf : v.nl = false → formP v = 0) {t : AT} (hw : wfP cs t)
    (o1 : okB (bndP col t).lo = true) (o2 : okB (bndP col t).hi = true) (hne : (bndP col t).lo.nl = false ∨ (bndP col t).hi.nl = false) :
    evP R t = 2 → withinP v (bndP col t).lo (bndP col t).hi = true := by
  subst hR
  subst ht
  intro he
  have hnl : (R col).nl = false := hne.elim (sound_nn cs col R hw he).1 (sound_nn cs col R hw he).2
  have S := side_val (hf hnl) hnl
  have g := sound hk R S hw he
  rw [within_iff]
  have cv : ∀ (L : RV → Prop) (x : RV), okB x = true → SdB (R col) L (fun x => formP x = 0) x → (x.nl = true ∨ L x) := fun L x ho h => by
    rcases h with h | h
    · exact .inl h
    · rcases okB_form ho with q | q
      · exact .inl q
      · exact .inr (h.2 q)
  exact ⟨hnl, cv _ _ o1 g.1, cv _ _ o2 g.2⟩
def in4 (n : Int) (lo hi : RV) : Bool := (lo.nl || decide (lo.n ≤ n)) && (hi.nl || decide (n ≤ hi.n))
theorem holds_id1 {cs : List CV} {col : ByteArray} (hk : kindP cs col = some 1) (R : ByteArray → RV) {n : Int} (hR : R col = vInt n) {t : AT} (hw : wfP cs t) :
    evP R t = 2 → in4 n (bndP col t).lo (bndP col t).hi = true := by
  have S := side_id n
  have S' : Side 1 (R col) (fun x => x.n ≤ n) (fun x => n ≤ x.n) (fun _ => True) := by rw [hR]; exact S
  intro he
  have g := sound hk R S' hw he
  unfold in4
  rw [Bool.and_eq_true, Bool.or_eq_true, Bool.or_eq_true, decide_eq_true_eq, decide_eq_true_eq]
  exact ⟨g.1.elim .inl (fun q => .inr (q.2 trivial)), g.2.elim .inl (fun q => .inr (q.2 trivial))⟩
theorem colV_col (vs : List RV) (id k : Nat) (h : k < 4) : colV (colsT 4) vs id (colN k) = vs.getD k RV0 := by
  have l0 : (colN 0).toList = [97] := by simp [colN, colL, ByteArray.toList, ByteArray.toList.loop, ByteArray.size, ByteArray.get!]
  have l1 : (colN 1).toList = [98] := by simp [colN, colL, ByteArray.toList, ByteArray.toList.loop, ByteArray.size, ByteArray.get!]
  have l2 : (colN 2).toList = [99] := by simp [colN, colL, ByteArray.toList, ByteArray.toList.loop, ByteArray.size, ByteArray.get!]
  have l3 : (colN 3).toList = [100] := by simp [colN, colL, ByteArray.toList, ByteArray.toList.loop, ByteArray.size, ByteArray.get!]
  have hc : colsT 4 = [colT 0, colT 1, colT 2, colT 3] := rfl
  have n0 : (colT 0).nm = colN 0 := rfl
  have n1 : (colT 1).nm = colN 1 := rfl
  have n2 : (colT 2).nm = colN 2 := rfl
  have n3 : (colT 3).nm = colN 3 := rfl
  obtain rfl | rfl | rfl | rfl : k = 0 ∨ k = 1 ∨ k = 2 ∨ k = 3 := by omega
  all_goals
    unfold colV
    simp only [hc, findI, n0, n1, n2, n3, l0, l1, l2, l3, idS_l]
    rfl
theorem colV_id (cs : List CV) (vs : List RV) (id : Nat) : colV cs vs id (colN 4) = vInt (id : Int) := by
  have e : colN 4 = idS := rfl
  unfold colV
  rw [e, if_pos (by simp)]; rfl
end Go.Proofs.YtgnoikfmhncbmaaGreatDoor
