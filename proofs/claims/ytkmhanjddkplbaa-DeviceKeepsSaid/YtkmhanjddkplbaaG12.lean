/- DeviceKeeps: a state that does not mind what is written into new blocks. -/
import Derived.Test.YtkmhanjddkplbaaG9
namespace Go.Proofs.Ytkmhanjddkplbaa
open Go.RowKit Go.Maps
variable {w wx : World} {B M h T : Nat} {R : Dv} {L : Lay}

/-- Both devices; no block from M on is theirs. -/
structure KeepS (w : World) (B M : Nat) (L : Lay) (h T : Nat) (R : Dv) (wx : World) : Prop where
  ex : ∃ F, DevSt wx F 0 L T R ∧ RefSt wx F 1 h T R ∧ Free F B ∧ ∀ k, M ≤ k → F k = none
  b : Below B w wx
  hB : B ≤ w.heap.size
  hM : B ≤ M
  hMx : M ≤ wx.heap.size
theorem Two.keep (hp : Two w B L h T R wx) : KeepS w B wx.heap.size L h T R wx := by
  obtain ⟨F, h1, h2, h3⟩ := hp.ex
  have hsz := hp.b.size
  have hB := hp.hB
  refine ⟨⟨F.trim wx, h1.trim, h2.kept (Only.refl (fun _ => False) _) (F.trim_ext wx) (fun _ _ s => s.elim), fun k hk => ?_, fun k hk => F.trim_new wx hk⟩, hp.b, hp.hB, by omega, Nat.le_refl _⟩
  rw [F.trim_ext wx k (by omega)]; exact h3 k hk
theorem KeepS.two (hp : KeepS w B M L h T R wx) : Two w B L h T R wx := by
  obtain ⟨F, h1, h2, h3, _⟩ := hp.ex
  exact ⟨⟨F, h1, h2, h3⟩, hp.b, hp.hB⟩
theorem KeepS.below {w' : World} (hp : KeepS w B M L h T R wx) (hb : Below wx.heap.size wx w') : KeepS w B M L h T R w' := by
  obtain ⟨F, h1, h2, h3, h4⟩ := hp.ex
  exact ⟨⟨F, h1.below hb, h2.below hb, h3, h4⟩, hp.b.trans (hb.mono (Nat.le_trans hp.hB hp.b.size)), hp.hB, hp.hM, Nat.le_trans hp.hMx hb.size⟩
theorem KeepS.drewN (hp : KeepS w B M L h T R wx) (n : Nat) : KeepS w B M L h T R (wx.drewN n) := hp.below (below_drewN (Below.refl _ _) n)
/-- Whatever happens to blocks from M on. -/
theorem KeepS.only {w' : World} (hp : KeepS w B M L h T R wx) (ho : Only (fun k => M ≤ k) wx w') : KeepS w B M L h T R w' := by
  obtain ⟨F, h1, h2, h3, h4⟩ := hp.ex
  have hsz := hp.b.size
  have hB := hp.hB
  have hM := hp.hM
  exact ⟨⟨F, h1.kept ho (Ext.refl _ _) (fun k r s e => by rw [h4 k s] at e; cases e), h2.kept ho (Ext.refl _ _) (fun k r s e => by rw [h4 k s] at e; cases e), h3, h4⟩, hp.b.trans (ho.below (by omega) (fun k _ s => by omega)), hp.hB, hp.hM, Nat.le_trans hp.hMx ho.size⟩
theorem KeepS.set (hp : KeepS w B M L h T R wx) {a : Addr} (ha : M ≤ a.block) (v : Value) : KeepS w B M L h T R (wx.setCell a v) :=
  hp.only (Only.setCell (Only.refl _ _) (fun _ => ha) v)
theorem KeepS.lines (hp : KeepS w B M L h T R wx) : Calls Try.prog 22 #[.pointer (some ⟨L.g, 0, none⟩)] wx fun e w' => e = .returned (.int .i64 (R.lines.length : Int)) ∧ wx = w' := by
  obtain ⟨F, h1, _⟩ := hp.ex; exact lines_any h1
/-- A slice of stores that may be written into. -/
def JunkW (M : Nat) (v : Value) (n : Nat) (wr : World) : Prop := n = 0 ∨ ∃ g cap cs, v = .slice (some ⟨g, 0, none⟩) n cap ∧ M ≤ g ∧ Has wr g cs 61 ∧ n * 2 ≤ cs.length
theorem JunkW.set {v : Value} {n o g : Nat} {wr : World} (hj : JunkW M v n wr) (hg : v.ownBlock = some g) (u : Value) : JunkW M v n (wr.setCell ⟨g, o, none⟩ u) := by
  rcases hj with h | ⟨g', cap, cs, rfl, h1, h2, h3⟩
  · exact .inl h
  · simp only [Value.ownBlock, Option.some.injEq] at hg; subst hg
    exact .inr ⟨_, cap, _, rfl, h1, h2.set o u, by rw [List.length_set]; exact h3⟩
theorem own_junk {n size T : Nat} {v : Value} {wr : World} {xs : List Value} (ho : wr.ownsRow 0 T size v n xs) : n = 0 ∨ ∃ g cap cs, v = .slice (some ⟨g, 0, none⟩) n cap ∧ Has wr g cs T ∧ n * size ≤ cs.length ∧ cs.take (n * size) = xs := by
  rcases ho.2 with ⟨_, h⟩ | ⟨g, cap, cur, h1, _, h3, h4, _, h6, h7⟩
  · exact .inl h
  · refine .inr ⟨g, cap, cur.toList, h1, h3, ?_, h7⟩
    rw [Array.length_toList, h6]; exact Nat.mul_le_mul_right _ h4
/-- A slice of numbers that may be written into. -/
def JunkI (M : Nat) (v : Value) (n : Nat) (wr : World) : Prop := n = 0 ∨ ∃ g cap cs, v = .slice (some ⟨g, 0, none⟩) n cap ∧ M ≤ g ∧ Has wr g cs 3 ∧ ∀ j, j < n → ∃ z : Int, cs[j]? = some (.int .i64 z)
theorem JunkI.set {v : Value} {n o g : Nat} {wr : World} (hj : JunkI M v n wr) (hg : v.ownBlock = some g) (z : Int) : JunkI M v n (wr.setCell ⟨g, o, none⟩ (.int .i64 z)) := by
  rcases hj with h | ⟨g', cap, cs, rfl, h1, h2, h3⟩
  · exact .inl h
  · simp only [Value.ownBlock, Option.some.injEq] at hg; subst hg
    refine .inr ⟨_, cap, _, rfl, h1, h2.set o _, fun j hj => ?_⟩
    obtain ⟨y, hy⟩ := h3 j hj
    by_cases e : o = j
    · subst e
      have : o < cs.length := by
        rcases Nat.lt_or_ge o cs.length with h | h
        · exact h
        · rw [List.getElem?_eq_none h] at hy; cases hy
      exact ⟨z, List.getElem?_set_self this⟩
    · exact ⟨y, by rw [List.getElem?_set_ne e]; exact hy⟩
theorem KeepS.hist (hp : KeepS w B M L h T R wx) {i : Nat} (hi : i < R.lines.length) : Calls Try.prog 34 #[.pointer (some ⟨L.g, 0, none⟩), .int .i64 (i : Int)] wx fun e w' => ∃ a c, e = .returned (.slice a (R.line i).hist.length c) ∧ JunkW M (.slice a (R.line i).hist.length c) (R.line i).hist.length w' ∧ KeepS w B M L h T R w' := by
  obtain ⟨F, h1, _⟩ := hp.ex
  refine (history_any h1 hi).mono fun e w' ⟨a, c, he, ho, hb, hf⟩ => ⟨a, c, he, ?_, hp.below hb⟩
  rcases own_junk ho with h | ⟨g, cap, cs, h1, h2, h3, _⟩
  · exact .inl h
  · exact .inr ⟨g, cap, cs, h1, Nat.le_trans hp.hMx (hf g (by rw [h1]; rfl)), h2, h3⟩
theorem KeepS.dirty (hp : KeepS w B M L h T R wx) : Calls Try.prog 42 #[.pointer (some ⟨L.g, 0, none⟩)] wx fun e w' => ∃ a c, e = .returned (.slice a (dirtyL R).length c) ∧ JunkI M (.slice a (dirtyL R).length c) (dirtyL R).length w' ∧ KeepS w B M L h T R w' := by
  obtain ⟨F, h1, _⟩ := hp.ex
  refine (dirty_any h1).mono fun e w' ⟨a, c, he, ho, hb, hf⟩ => ⟨a, c, he, ?_, hp.below hb⟩
  rcases own_junk ho with h | ⟨g, cap, cs, h1, h2, h3, h4⟩
  · exact .inl h
  · refine .inr ⟨g, cap, cs, h1, Nat.le_trans hp.hMx (hf g (by rw [h1]; rfl)), h2, fun j hj => ?_⟩
    have e1 : (cs.take ((dirtyL R).length * 1))[j]? = (nats (dirtyL R))[j]? := by rw [h4]
    rw [List.getElem?_take, if_pos (by omega)] at e1
    exact ⟨_, e1.trans (nats_get _ _ _ (get_of_lt 0 hj))⟩
end Go.Proofs.Ytkmhanjddkplbaa
