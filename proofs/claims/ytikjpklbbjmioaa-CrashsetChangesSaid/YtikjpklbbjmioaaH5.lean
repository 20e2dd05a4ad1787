/- Objects under other roles. -/
import Derived.Test.YtikjpklbbjmioaaG3
namespace Go.Proofs.Ytikjpklbbjmioaa
open Go.RowKit Go.Maps
variable {w : World} {F F' : Own} {o o' h T : Nat} {R : Dv} {L : Lay}
/-- The same object, under other roles for the other blocks. -/
theorem LinSt.retag {lb : Nat} (hl : LinSt w F o lb R) (hx : ∀ k r, F k = some (o, r) → F' k = some (o, r)) : LinSt w F' o lb R := by
  obtain ⟨cs, hv, h1, h2, h3⟩ := hl
  exact ⟨cs, hv, h1, h2, fun i hi => by obtain ⟨a, b, c, d⟩ := h3 i hi; exact ⟨a, b, c, fun k hk => hx _ _ (d k hk)⟩⟩
theorem DevSt.retag (hd : DevSt w F o L T R) (hx : ∀ k r, F k = some (o, r) → F' k = some (o, r)) : DevSt w F' o L T R :=
  ⟨hd.ok, hd.dev, hx _ _ hd.fg, hd.per, hx _ _ hd.fp, hd.cur, hx _ _ hd.fc, hd.lin.retag hx, hx _ _ hd.fl, fun t ht => ⟨(hd.thr t ht).1, hx _ _ (hd.thr t ht).2⟩, fun t ht => ⟨(hd.nov t ht).1, hx _ _ (hd.nov t ht).2⟩⟩
theorem RdO.retag {r : Nat × Nat} {v : Value} {n : Nat} {cells : List Value} (hd : RdO w F (o, r) v n cells) (hx : ∀ k r, F k = some (o, r) → F' k = some (o, r)) : RdO w F' (o, r) v n cells :=
  ⟨hd.1, fun hc k hk => hx _ _ (hd.2.1 hc k hk), hd.2.2⟩
theorem RefSt.retag (hr : RefSt w F o h T R) (hx : ∀ k r, F k = some (o, r) → F' k = some (o, r)) : RefSt w F' o h T R := by
  obtain ⟨lb, lc, ns, h1, h2, h3, h4⟩ := hr.ex
  obtain ⟨cs, hv, h5, h6⟩ := h2
  refine ⟨hr.ok, ⟨lb, lc, ns, h1, ⟨cs, hv, h5, fun i hi => ?_⟩, hx _ _ h3, fun t ht => (h4 t ht).retag hx⟩, hx _ _ hr.fh⟩
  obtain ⟨a, b, c, d⟩ := h6 i hi
  exact ⟨a, b, c, d.retag hx⟩
/-- The roles without those of object o. -/
def Own.drop (F : Own) (o : Nat) : Own := fun k => match F k with
  | some (o1, r) => if o1 = o then none else some (o1, r)
  | none => none
theorem Own.drop_ne (F : Own) (o : Nat) (k : Nat) (r : Nat × Nat) : F.drop o k ≠ some (o, r) := by
  unfold Own.drop
  split
  · rename_i o1 r1 _
    split
    · intro e; cases e
    · intro e; cases e; contradiction
  · intro e; cases e
theorem Own.drop_keep (F : Own) {o o1 : Nat} (hn : o1 ≠ o) (k : Nat) (r : Nat × Nat) (h : F k = some (o1, r)) : F.drop o k = some (o1, r) := by
  unfold Own.drop; rw [h]; simp only [if_neg hn]
theorem Free.drop {B : Nat} (hF : Free F B) (o : Nat) : Free (F.drop o) B := fun k hk => by unfold Own.drop; rw [hF k hk]

theorem RefSt.belowX {w' : World} (hr : RefSt w F o h T R) (hb : Below w.heap.size w w') (hx : Ext w F F') : RefSt w' F' o h T R :=
  have hO : Only (fun _ => False) w w' := ⟨hb.os, hb.tape, hb.output, hb.size, fun k hk _ => hb.block k hk⟩
  hr.kept hO hx (fun _ _ s => s.elim)
theorem Has.own {b cap n : Nat} {T : TypeId} {cs : List Value} (h : Has w b cs T) (hl : cs.length = n) (hc : n ≤ maxLen) (hcap : cap = n) : w.ownsRow 0 T 1 (.slice (some ⟨b, 0, none⟩) n cap) n cs := by
  subst hcap
  refine ⟨by omega, .inr ⟨b, cap, cs.toArray, rfl, Nat.zero_le _, h, Nat.le_refl _, hc, by simp [hl], ?_⟩⟩
  rw [List.take_of_length_le (by simp; omega)]
end Go.Proofs.Ytikjpklbbjmioaa
