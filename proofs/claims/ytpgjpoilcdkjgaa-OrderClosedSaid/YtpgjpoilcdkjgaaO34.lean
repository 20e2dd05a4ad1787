/- slices.Reverse of a slice that its frame owns. -/
import Derived.Test.YtpgjpoilcdkjgaaO33
import Derived.Test.YtpgjpoilcdkjgaaQ6
import Derived.Test.YtpgjpoilcdkjgaaO27
namespace Go.Proofs.Ytpgjpoilcdkjgaa
open Go.RowKit

def putL (xs : List Value) : Nat → List Value → List Value
  | _, [] => xs
  | o, v :: r => putL (xs.set o v) (o + 1) r
theorem putL_get : ∀ (vs xs : List Value) (o i : Nat), o + vs.length ≤ xs.length → (putL xs o vs)[i]? = if o ≤ i ∧ i < o + vs.length then vs[i - o]? else xs[i]?
  | [], xs, o, i, _ => by simp [putL]; omega
  | v :: r, xs, o, i, h => by
    rw [putL, putL_get r (xs.set o v) (o + 1) i (by simp at *; omega)]
    simp only [List.length_cons] at *
    by_cases h1 : i = o
    · subst h1
      rw [if_neg (by omega), if_pos (by omega), List.getElem?_set, if_pos rfl, if_pos (by omega), Nat.sub_self]; rfl
    · by_cases h2 : o + 1 ≤ i ∧ i < o + 1 + r.length
      · rw [if_pos h2, if_pos (by omega)]
        have : i - o = (i - (o + 1)) + 1 := by omega
        rw [this]; rfl
      · rw [if_neg h2, if_neg (by omega), List.getElem?_set, if_neg (fun e => h1 e.symm)]
theorem putL_all (vs xs : List Value) (h : vs.length = xs.length) : putL xs 0 vs = vs := by
  apply List.ext_getElem?
  intro i
  rw [putL_get vs xs 0 i (by omega)]
  by_cases h1 : i < vs.length
  · rw [if_pos (by omega), Nat.sub_zero]
  · rw [if_neg (by omega), List.getElem?_eq_none (by omega), List.getElem?_eq_none (by omega)]
theorem own_setCells {e : TypeId} {n cap g : Nat} : ∀ (vs xs : List Value) (o : Nat) (w : World), w.ownsRow 0 e 1 (.slice (some ⟨g, 0, none⟩) n cap) n xs →
    (w.setCells g o vs).ownsRow 0 e 1 (.slice (some ⟨g, 0, none⟩) n cap) n (putL xs o vs)
  | [], _, _, _, h => h
  | v :: r, xs, o, w, h => own_setCells r _ (o + 1) _ (ownsRow_set h o v)
theorem only_setCells {w0 : World} {S : Nat → Prop} {g : Nat} (hg : S g) : ∀ (vs : List Value) (o : Nat) (w : World), Only S w0 w → Only S w0 (w.setCells g o vs)
  | [], _, _, h => h
  | v :: r, o, w, h => only_setCells hg r (o + 1) _ (h.setCell (a := ⟨g, o, none⟩) (fun _ => hg) v)
theorem ownsRow_drewN {w : World} {e : TypeId} {size n : Nat} {v : Value} {xs : List Value} (h : w.ownsRow 0 e size v n xs) (m : Nat) : (w.drewN m).ownsRow 0 e size v n xs := h

theorem reverse_own (na : Option Addr) (nc : Nat) (cs : List Nat) (w : World) (h : w.ownsRow 0 3 1 (.slice na cs.length nc) cs.length (nats cs)) (hl : cs.length ≤ 9223372036854775807) :
    Calls Try.prog 27 #[.slice na cs.length nc] w fun e w' => e = .returned (.tuple #[]) ∧ w'.ownsRow 0 3 1 (.slice na cs.length nc) cs.length (nats cs.reverse) ∧ Only (fun k => Value.ownBlock (.slice na cs.length nc) = some k) w w' := by
  by_cases h0 : cs.length = 0
  · obtain rfl : cs = [] := List.eq_nil_of_length_eq_zero h0
    refine (Try.slices_Reverse_int_empty na nc w).mono ?_
    rintro e w' ⟨rfl, rfl⟩
    exact ⟨rfl, h, Only.refl _ _⟩
  · have hna : ∃ g, na = some ⟨g, 0, none⟩ := by
      obtain ⟨_, h2 | ⟨g', cap', cur, hv, _⟩⟩ := h
      · exfalso; simp only [Value.slice.injEq] at h2; omega
      · simp only [Value.slice.injEq] at hv; exact ⟨g', hv.1⟩
    obtain ⟨g, rfl⟩ := hna
    have hcell : ∀ j, j < (natsI cs).length → w.cell? ⟨g, 0 + j, none⟩ = some (.int .i64 ((natsI cs).getD j 0)) := by
      intro j hj
      rw [Nat.zero_add]
      refine ownsRow_get h ?_
      rw [nats_natsI]
      exact ints_get (natsI cs) .i64 j hj
    refine (Try.slices_Reverse_int_cells g 0 cs.length nc (natsI cs) w (by rw [natsI_len]; exact Nat.le_refl _) hl hcell (fun j _ => ownsRow_free h _)).mono ?_
    rintro e w' ⟨rfl, q, rfl⟩
    have hv : ((natsI cs).take cs.length).reverse.map (Value.int .i64) = nats cs.reverse := by
      rw [List.take_of_length_le (by rw [natsI_len]; exact Nat.le_refl _), nats_natsI]
      simp [natsI]
    rw [hv]
    refine ⟨rfl, ?_, only_setCells (by rfl) _ 0 _ ((Only.refl _ w).drewN q)⟩
    have := own_setCells (nats cs.reverse) (nats cs) 0 (w.drewN q) (ownsRow_drewN h q)
    rw [putL_all _ _ (by simp [nats])] at this
    exact this
end Go.Proofs.Ytpgjpoilcdkjgaa
