/- Decoding, step by step: the program's loop and the reference's, each after its first columns. No program in sight. -/
import Derived.Test.YtpjbcadelmjmfaaGreatDoorR9
namespace Go.Proofs.YtpjbcadelmjmfaaGreatDoor
open Go.Lib

theorem drop_cons {α : Type} (d : α) {l : List α} {k : Nat} (h : k < l.length) : l.drop k = l.getD k d :: l.drop (k + 1) := by
  rw [List.getD, List.getElem?_eq_getElem h]
  exact List.drop_eq_getElem_cons h
theorem pow_half (nb k : Nat) : nb / 2 ^ k / 2 = nb / 2 ^ (k + 1) := by rw [Nat.div_div_eq_div_mul, Nat.pow_succ]
theorem map_map_snoc {α : Type} (r : List α) (v : α) (o : Option (List α)) : (o.map (v :: ·)).map (r ++ ·) = o.map ((r ++ [v]) ++ ·) := by
  cases o with
  | none => rfl
  | some x => simp
/-- What the program has when the columns up to here are read: these values, and this rest. -/
def DecAt (ver : Int) (cs : List CV) (nb : Nat) (p : List Nat) (r : List RV) (q : List Nat) : Prop :=
  decGo ver cs nb p = (decGo ver (cs.drop r.length) (nb / 2 ^ r.length) q).map (r ++ ·)
/-- The next value, and the rest behind it. -/
def decV (ty nb k : Nat) (q : List Nat) : RV × List Nat := if nb / 2 ^ k % 2 = 1 then (zeroV ty true, q) else laxP ty q
section
variable {ver : Int} {cs : List CV} {nb : Nat} {p : List Nat} {r : List RV} {q : List Nat}
theorem DecAt.nil (ver : Int) (cs : List CV) (nb : Nat) (p : List Nat) : DecAt ver cs nb p [] p := by
  unfold DecAt
  simp only [List.length_nil, List.drop_zero, Nat.pow_zero, Nat.div_one, List.nil_append]
  cases decGo ver cs nb p <;> rfl
theorem DecAt.done (h : DecAt ver cs nb p r q) (hk : r.length = cs.length) : decGo ver cs nb p = some r := by
  unfold DecAt at h
  rw [h, hk, List.drop_length]
  simp [decGo]
theorem DecAt.stop (h : DecAt ver cs nb p r q) (hk : r.length < cs.length) (hv : ver < (cs.getD r.length CV0).sc) : decGo ver cs nb p = some r := by
  unfold DecAt at h
  rw [h, drop_cons CV0 hk]
  unfold decGo
  rw [if_pos hv]
  simp
theorem DecAt.bad (h : DecAt ver cs nb p r q) (hk : r.length < cs.length) (hv : ¬ ver < (cs.getD r.length CV0).sc)
    (hf : fitsP (cs.getD r.length CV0).ty (cs.getD r.length CV0).nl (decV (cs.getD r.length CV0).ty nb r.length q).1 ≠ 0) : decGo ver cs nb p = none := by
  unfold DecAt at h
  rw [h, drop_cons CV0 hk]
  unfold decGo
  unfold decV at hf
  rw [if_neg hv]
  by_cases h1 : nb / 2 ^ r.length % 2 = 1
  · rw [if_pos h1] at hf ⊢
    rw [if_pos hf]; rfl
  · rw [if_neg h1] at hf ⊢
    rw [if_pos hf]; rfl
theorem DecAt.next (h : DecAt ver cs nb p r q) (hk : r.length < cs.length) (hv : ¬ ver < (cs.getD r.length CV0).sc)
    (hf : fitsP (cs.getD r.length CV0).ty (cs.getD r.length CV0).nl (decV (cs.getD r.length CV0).ty nb r.length q).1 = 0) :
    DecAt ver cs nb p (r ++ [(decV (cs.getD r.length CV0).ty nb r.length q).1]) (decV (cs.getD r.length CV0).ty nb r.length q).2 := by
  unfold DecAt at h ⊢
  rw [h, drop_cons CV0 hk]
  rw [List.length_append, List.length_singleton]
  conv => lhs; unfold decGo
  rw [if_neg hv]
  unfold decV at hf ⊢
  by_cases h1 : nb / 2 ^ r.length % 2 = 1
  · rw [if_pos h1] at hf ⊢
    rw [if_pos h1, if_neg (fun e => e hf), map_map_snoc, pow_half]
  · rw [if_neg h1] at hf ⊢
    rw [if_neg h1, if_neg (fun e => e hf), map_map_snoc, pow_half]
end
theorem lax_sub (ty : Nat) (q : List Nat) : ∀ x ∈ (laxP ty q).2, x ∈ q := by
  intro x hx
  unfold laxP at hx
  by_cases h0 : q.length < (if ty = 1 then 4 else if ty = 2 ∧ 0 < q.length then 1 + q.getD 0 0 else 1)
  · rw [if_pos h0] at hx; cases hx
  rw [if_neg h0] at hx
  by_cases h1 : ty = 1
  · rw [if_pos h1] at hx; exact List.mem_of_mem_drop hx
  rw [if_neg h1] at hx
  by_cases h2 : ty = 2
  · rw [if_pos h2] at hx; exact List.mem_of_mem_drop hx
  rw [if_neg h2] at hx
  exact List.mem_of_mem_drop hx
theorem decV_sub (ty nb k : Nat) (q : List Nat) : ∀ x ∈ (decV ty nb k q).2, x ∈ q := by
  intro x hx
  unfold decV at hx
  split at hx
  · exact hx
  · exact lax_sub ty q x hx

/-- What the reference has. -/
def RefAt (ver : Int) (cs : List CV) (nb : Nat) (p : List Nat) (r : List RV) (q : List Nat) : Prop :=
  refGo ver cs nb p = (refGo ver (cs.drop r.length) (nb / 2 ^ r.length) q).map fun x => (r ++ x.1, x.2)
theorem map_map_snoc2 {α β : Type} (r : List α) (v : α) (o : Option (List α × β)) : (o.map fun x => (v :: x.1, x.2)).map (fun x => (r ++ x.1, x.2)) = o.map fun x => ((r ++ [v]) ++ x.1, x.2) := by
  cases o with
  | none => rfl
  | some x => simp
section
variable {ver : Int} {cs : List CV} {nb : Nat} {p : List Nat} {r : List RV} {q : List Nat}
theorem RefAt.nil (ver : Int) (cs : List CV) (nb : Nat) (p : List Nat) : RefAt ver cs nb p [] p := by
  unfold RefAt
  simp only [List.length_nil, List.drop_zero, Nat.pow_zero, Nat.div_one, List.nil_append]
  cases refGo ver cs nb p <;> rfl
theorem RefAt.done (h : RefAt ver cs nb p r q) (hk : r.length = cs.length) : refOk ver cs nb p = if q = [] ∧ nb / 2 ^ cs.length = 0 then some r else none := by
  unfold RefAt at h
  rw [hk, List.drop_length] at h
  simp only [refGo, Option.map_some, List.append_nil] at h
  unfold refOk
  rw [h]
theorem refOk_none (h : refGo ver cs nb p = none) : refOk ver cs nb p = none := by unfold refOk; rw [h]
theorem RefAt.laterBad (h : RefAt ver cs nb p r q) (hk : r.length < cs.length) (hv : ver < (cs.getD r.length CV0).sc) (h1 : nb / 2 ^ r.length % 2 = 1) : refOk ver cs nb p = none := by
  unfold RefAt at h
  refine refOk_none ?_
  rw [h, drop_cons CV0 hk]
  unfold refGo
  rw [if_pos hv, if_pos h1]; rfl
theorem RefAt.later (h : RefAt ver cs nb p r q) (hk : r.length < cs.length) (hv : ver < (cs.getD r.length CV0).sc) (h1 : ¬ nb / 2 ^ r.length % 2 = 1) : RefAt ver cs nb p (r ++ [(cs.getD r.length CV0).df]) q := by
  unfold RefAt at h ⊢
  rw [h, drop_cons CV0 hk, List.length_append, List.length_singleton]
  conv => lhs; unfold refGo
  rw [if_pos hv, if_neg h1, map_map_snoc2, pow_half]
theorem RefAt.nullBad (h : RefAt ver cs nb p r q) (hk : r.length < cs.length) (hv : ¬ ver < (cs.getD r.length CV0).sc) (h1 : nb / 2 ^ r.length % 2 = 1) (hf : fitsP (cs.getD r.length CV0).ty (cs.getD r.length CV0).nl (zeroV (cs.getD r.length CV0).ty true) ≠ 0) : refOk ver cs nb p = none := by
  unfold RefAt at h
  refine refOk_none ?_
  rw [h, drop_cons CV0 hk]
  unfold refGo
  rw [if_neg hv, if_pos h1, if_pos hf]; rfl
theorem RefAt.null (h : RefAt ver cs nb p r q) (hk : r.length < cs.length) (hv : ¬ ver < (cs.getD r.length CV0).sc) (h1 : nb / 2 ^ r.length % 2 = 1) (hf : fitsP (cs.getD r.length CV0).ty (cs.getD r.length CV0).nl (zeroV (cs.getD r.length CV0).ty true) = 0) : RefAt ver cs nb p (r ++ [zeroV (cs.getD r.length CV0).ty true]) q := by
  unfold RefAt at h ⊢
  rw [h, drop_cons CV0 hk, List.length_append, List.length_singleton]
  conv => lhs; unfold refGo
  rw [if_neg hv, if_pos h1, if_neg (by omega), map_map_snoc2, pow_half]
theorem RefAt.strictNone (h : RefAt ver cs nb p r q) (hk : r.length < cs.length) (hv : ¬ ver < (cs.getD r.length CV0).sc) (h1 : ¬ nb / 2 ^ r.length % 2 = 1) (hs : strictP (cs.getD r.length CV0).ty q = none) : refOk ver cs nb p = none := by
  unfold RefAt at h
  refine refOk_none ?_
  rw [h, drop_cons CV0 hk]
  unfold refGo
  rw [if_neg hv, if_neg h1, hs]; rfl
theorem RefAt.strictBad (h : RefAt ver cs nb p r q) (hk : r.length < cs.length) (hv : ¬ ver < (cs.getD r.length CV0).sc) (h1 : ¬ nb / 2 ^ r.length % 2 = 1) {x : RV} {t : List Nat} (hs : strictP (cs.getD r.length CV0).ty q = some (x, t)) (hf : fitsP (cs.getD r.length CV0).ty (cs.getD r.length CV0).nl x ≠ 0) : refOk ver cs nb p = none := by
  unfold RefAt at h
  refine refOk_none ?_
  rw [h, drop_cons CV0 hk]
  unfold refGo
  rw [if_neg hv, if_neg h1, hs]
  simp only
  rw [if_pos hf]; rfl
theorem RefAt.strict (h : RefAt ver cs nb p r q) (hk : r.length < cs.length) (hv : ¬ ver < (cs.getD r.length CV0).sc) (h1 : ¬ nb / 2 ^ r.length % 2 = 1) {x : RV} {t : List Nat} (hs : strictP (cs.getD r.length CV0).ty q = some (x, t)) (hf : fitsP (cs.getD r.length CV0).ty (cs.getD r.length CV0).nl x = 0) : RefAt ver cs nb p (r ++ [x]) t := by
  unfold RefAt at h ⊢
  rw [h, drop_cons CV0 hk, List.length_append, List.length_singleton]
  conv => lhs; unfold refGo
  rw [if_neg hv, if_neg h1, hs]
  simp only
  rw [if_neg (by omega), map_map_snoc2, pow_half]
end

/-- What Decode gives: the row, and the error's number. -/
def decP (ver : Nat) (cs : List CV) (p : List Nat) : List RV × Nat :=
  if p.length < 3 then ([], 11)
  else if p.getD 0 0 + 256 * p.getD 1 0 = 0 ∨ ver < p.getD 0 0 + 256 * p.getD 1 0 then ([], 14)
  else match progOk ((p.getD 0 0 + 256 * p.getD 1 0 : Nat) : Int) cs (p.getD 2 0) (p.drop 3) with
    | none => ([], 11)
    | some r => (r, 0)
theorem enc_eq (v : Nat) (r : List RV) (p : List Nat) (hl : ¬ p.length < 3) (hp : ∀ x ∈ p, x < 256) (hv : v = p.getD 0 0 + 256 * p.getD 1 0) : (encP v r = p) ↔ (p.drop 3 = encR r ∧ p.getD 2 0 = nulls r) := by
  match p, hl with
  | a :: b :: c :: t, _ =>
    have ha := hp a (by simp)
    have hb := hp b (by simp)
    simp only [List.getD_cons_zero, List.getD_cons_succ, List.drop_succ_cons, List.drop_zero] at hv ⊢
    unfold encP
    have e1 : v % 256 = a := by omega
    have e2 : v / 256 % 256 = b := by omega
    rw [e1, e2]
    simp only [List.cons.injEq, true_and]
    constructor
    · rintro ⟨rfl, rfl⟩; exact ⟨rfl, rfl⟩
    · rintro ⟨rfl, rfl⟩; exact ⟨rfl, rfl⟩
  | [], hl | [_], hl | [_, _], hl => simp at hl
theorem encV_256 (v : RV) : ∀ x ∈ encV v, x < 256 := by
  intro x hx
  unfold encV at hx
  split at hx
  · cases hx
  split at hx
  · unfold b4 at hx
    simp only [List.mem_cons, List.not_mem_nil, or_false] at hx
    rcases hx with rfl | rfl | rfl | rfl <;> omega
  split at hx
  · rcases List.mem_cons.1 hx with rfl | hx
    · omega
    · unfold natsOf at hx
      obtain ⟨c, _, rfl⟩ := List.mem_map.1 hx
      exact UInt8.toNat_lt c
  · simp only [List.mem_cons, List.not_mem_nil, or_false] at hx
    subst hx
    split <;> omega
theorem encP_256 (ver : Nat) (r : List RV) (h8 : r.length ≤ 8) : ∀ x ∈ encP ver r, x < 256 := by
  intro x hx
  unfold encP at hx
  have hn := nulls_lt r
  have h2 : 2 ^ r.length ≤ 2 ^ 8 := Nat.pow_le_pow_right (by omega) h8
  simp only [List.mem_cons] at hx
  rcases hx with rfl | rfl | rfl | hx
  · omega
  · omega
  · omega
  · unfold encR at hx
    obtain ⟨v, _, hv⟩ := List.mem_flatMap.1 hx
    exact encV_256 v x hv
end Go.Proofs.YtpjbcadelmjmfaaGreatDoor
