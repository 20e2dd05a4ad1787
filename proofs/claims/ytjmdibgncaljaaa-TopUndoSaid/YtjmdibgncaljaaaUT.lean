/- What one crash image comes to: the contracts of the law's all. -/
import Derived.Test.YtjmdibgncaljaaaUS
import Derived.Test.YtjmdibgncaljaaaK23
namespace Go.Proofs.Ytjmdibgncaljaaa
open Go.RowKit Dev
variable {F : Dev.Own} {T : Nat} {L : Lay} {R : Dv} {lb : Nat}
/-- A device of the image's, made behind the world A. -/
structure DI (A w : World) (F : Dev.Own) (L : Lay) (T : Nat) (R : Dv) : Prop where
  d : DevSt w F 0 L T R
  f : ∀ k, k < A.heap.size → F k = none
  b : Below A.heap.size A w
theorem DI.below {A w w' : World} (h : DI A w F L T R) (hb : Below w.heap.size w w') : DI A w' F L T R := ⟨h.d.below hb, h.f, h.b.trans (hb.mono h.b.size)⟩
theorem di_dev (A : World) (ws : List Nat) (hl : ws.length = 80) (hw : ∀ x ∈ ws, x < 18446744073709551616) :
    Calls Try.prog 74 #[.agg #[.string (strOf (bytesL ws))]] A (fun e w' => ∃ L F, e = .returned (.tuple #[.pointer (some ⟨L.g, 0, none⟩), .int .i64 0]) ∧ DI A w' F L 0 (fromP 10 ws)) :=
  (idevice_any (fun _ => none) 0 ws 10 hl (by decide) (by decide) hw A).mono fun e w' ⟨L, F', he, h1, h2, h3⟩ => ⟨L, F', he, h1, fun k hk => h2 k hk, h3⟩
theorem di_open {A w : World} (h : DI A w F L T R) (hl : R.lines.length = 10) :
    Calls Try.prog 20 #[.iface 67 (.pointer (some ⟨L.tb 0, 0, none⟩)), .int .i64 0, .int .i64 3] w
      (fun e w' => ∃ F' lb, e = .returned (.tuple #[.pointer (some ⟨lb, 0, none⟩), .int .i64 0]) ∧ DI A w' F' L T R ∧ LogAt w' lb (L.tb 0) ∧ F' lb = none) :=
  (uopen_any h.d hl).mono fun e w' ⟨he, h1, h2⟩ => ⟨F.trim w, w.heap.size, he, ⟨h.d.trim.below h2, fun k hk => by
    unfold Own.trim
    split
    · exact h.f k hk
    · rfl, h.b.trans (h2.mono h.b.size)⟩, h1, F.trim_new w (Nat.le_refl _)⟩
theorem di_rec {A w : World} (h : DI A w F L T R) (hT : T ≤ 80000) (hO : Ok10 R) (hg : LogAt w lb (L.tb 0)) (hFl : F lb = none) (hSb : ∀ p ∈ savedV R, okOff p.1 = true ∧ p.2 < 18446744073709551616) :
    Calls Try.prog 75 #[.pointer (some ⟨lb, 0, none⟩)] w
      (fun e w' => ∃ F' T' fl m, e = .returned (.tuple #[.int .i64 m, .int .i64 0]) ∧ DI A w' F' L T' (recD R fl) ∧ LogAt w' lb (L.tb 0) ∧ ∀ y, y ∈ fl ↔ y ∈ (savedV R).map fun p => p.1 / 64 * 64) :=
  (urec_any h.d hT hO hg hFl hSb).mono fun e w' ⟨F', T', fl, m, he, _, h1, h2, h3⟩ =>
    have hsz := h.b.size
    ⟨F', T', fl, m, he, ⟨h1, fun k hk => (h2.ext k (Nat.lt_of_lt_of_le hk hsz)).trans (h.f k hk), h.b.trans (h2.only.below hsz fun k _ ⟨r, e⟩ => Nat.le_of_not_lt fun hk => by rw [h.f k hk] at e; cases e)⟩,
      Has.only hg h2.only (fun ⟨r, e⟩ => by rw [hFl] at e; cases e), h3⟩
def wordsF (f : Nat → Nat) : List Nat := (List.range 56).map fun i => f (8 * (24 + i))
theorem wordsF_len (f : Nat → Nat) : (wordsF f).length = 56 := by unfold wordsF; rw [List.length_map, List.length_range]
theorem wordsD_eq (R : Dv) (f : Nat → Nat) (h : ∀ o, o % 8 = 0 → 192 ≤ o → o < 640 → valueP R o = f o) : wordsD R = wordsF f := by
  unfold wordsD wordsF
  apply List.map_congr_left
  intro i hi
  rw [List.mem_range] at hi
  exact h _ (by omega) (by omega) (by omega)
/-- What is asked of the device before all its images are recovered. -/
structure AllOk (R : Dv) (ol nl : List Nat) (b a : Bool) : Prop where
  o : Ok10 R
  r : ∀ x, ∀ fl, (∀ p ∈ savedX (crashW R (kOf R (digR R (dirtyL R) x))), okOff p.1 = true) ∧ ((∀ y, y ∈ fl ↔ y ∈ (savedX (crashW R (kOf R (digR R (dirtyL R) x)))).map fun p => p.1 / 64 * 64) →
    (b = true ∧ wordsD (recD (fromP 10 (crashW R (kOf R (digR R (dirtyL R) x)))) fl) = ol) ∨ (a = true ∧ wordsD (recD (fromP 10 (crashW R (kOf R (digR R (dirtyL R) x)))) fl) = nl))
theorem kof_le (R : Dv) (n l : Nat) : kOf R (digR R (dirtyL R) n) l ≤ (R.line l).hist.length := by
  unfold kOf
  split
  · rename_i h
    have hl : l < R.lines.length := by
      rcases Nat.lt_or_ge l R.lines.length with g | g
      · exact g
      · exfalso
        unfold Dv.line at h
        rw [List.getD, List.getElem?_eq_none g] at h
        exact absurd h (by decide)
    split
    · refine digR_le R _ n _ l ?_
      have hs := dirtyTo_succ R l
      rw [if_pos h] at hs
      obtain ⟨t, ht⟩ := dirtyTo_mono (R := R) (show l + 1 ≤ R.lines.length by omega)
      unfold dirtyL
      rw [ht, hs, List.append_assoc, List.getElem?_append_right (Nat.le_refl _), Nat.sub_self]; rfl
    · exact Nat.zero_le _
  · exact Nat.zero_le _
theorem allOk_mk {R : Dv} {old new : Nat → Nat} {b a : Bool} (ho : Ok10 R) (hok : R.Ok T) (hr : Rec R old new b a) (ha : ∀ kf : Nat → Nat, (∀ l, kf l ≤ (R.line l).hist.length) → ∀ p ∈ savedX (crashW R kf), okOff p.1 = true) : AllOk R (wordsF old) (wordsF new) b a := by
  refine ⟨ho, fun x fl => ?_⟩
  have hk := kof_le R x
  have hlen : (crashW R (kOf R (digR R (dirtyL R) x))).length = 80 := by rw [crashW_len hok, ho.len]
  refine ⟨ha _ hk, fun hfl => ?_⟩
  obtain ⟨_, _, h3⟩ := rec_image hlen (ha _ hk) hfl
  rcases hr _ hk with ⟨h1, h2⟩ | ⟨h1, h2⟩
  · exact .inl ⟨h1, wordsD_eq _ _ fun o g1 g2 g3 => (h3 o g1 g2 g3).trans (h2 o g1 g2 g3)⟩
  · exact .inr ⟨h1, wordsD_eq _ _ fun o g1 g2 g3 => (h3 o g1 g2 g3).trans (h2 o g1 g2 g3)⟩
end Go.Proofs.Ytjmdibgncaljaaa
