/- SchedStores: the last region's classes of worlds. -/
import Derived.Test.YtdminbjenbbpaaaU5
import Derived.Test.YtdminbjenbbpaaaQP
namespace Go.Proofs.Ytdminbjenbbpaaa
open Go.RowKit
structure LastC (wr : World) (F : Own) (L : Lay) (T : Nat) (R : Dv) (want n : Nat) (H : Nat → Option Value) (w : World) : Prop where
  dev : ∃ F2, DevSt w F2 0 L T R ∧ Dstep wr F 0 w F2
  c0 : ∀ v, H 0 = some v → v = .pointer (some ⟨L.tb 0, 0, none⟩)
  c1 : ∀ v, H 1 = some v → v = .int .u64 (want : Int)
  c2 : ∀ v, H 2 = some v → ∃ a c, v = .slice a n c
variable {wr w : World} {F : Own} {L : Lay} {T want n : Nat} {R : Dv} {H : Nat → Option Value}
theorem LastC.call0 (h : LastC wr F L T R want n H w) : Calls Try.prog 26 #[.pointer (some ⟨L.g, 0, none⟩), .int .i64 0] w (fun e w'' => ∃ v, e = .returned v ∧ LastC wr F L T R want n (setP H 0 v) w'') := by
  obtain ⟨F2, h1, h2⟩ := h.dev
  refine (thread_in h1 (t := 0) (by decide)).mono ?_
  rintro e w' ⟨rfl, rfl⟩
  exact ⟨_, rfl, ⟨F2, h1, h2⟩, fun v hv => by cases hv; rfl, fun v hv => h.c1 v hv, fun v hv => h.c2 v hv⟩
theorem LastC.call1 (h : LastC wr F L T R want n H w) (hd : DOk R want n) : Calls Try.prog 27 #[.pointer (some ⟨L.tb 0, 0, none⟩), .int .u64 64] w (fun e w'' => ∃ v, e = .returned v ∧ LastC wr F L T R want n (setP H 1 v) w'') := by
  obtain ⟨F2, h1, h2⟩ := h.dev
  have hi : R.isB 64 = true := by simp [Dv.isB, hd.l2]
  have e1 : mayP R 0 (R.isB 64) = R := by rw [hi]; simp [mayP, hd.off]
  have e2 : loadV R 64 = want := by unfold loadV; rw [hi]; simp [mayB, hd.off, hd.val]
  have hl := load_any h1 (t := 0) (off := 64) (by decide) (by decide)
  rw [e1, e2] at hl
  refine hl.mono ?_
  rintro e w' ⟨F3, rfl, g1, g2⟩
  exact ⟨_, rfl, ⟨F3, g1, h2.trans g2⟩, fun v hv => h.c0 v hv, fun v hv => by cases hv; rfl, fun v hv => h.c2 v hv⟩
theorem LastC.call2 (h : LastC wr F L T R want n H w) (hd : DOk R want n) : Calls Try.prog 28 #[.pointer (some ⟨L.g, 0, none⟩), .int .i64 1] w (fun e w'' => ∃ v, e = .returned v ∧ LastC wr F L T R want n (setP H 2 v) w'') := by
  obtain ⟨F2, h1, h2⟩ := h.dev
  refine (history_any h1 (i := 1) (by rw [hd.l2]; decide)).mono ?_
  rintro e w' ⟨a, c, rfl, _, hb, _⟩
  rw [hd.his]
  exact ⟨_, rfl, ⟨F2, h1.below hb, h2.trans (Dstep.below hb)⟩, fun v hv => h.c0 v hv, fun v hv => h.c1 v hv, fun v hv => by cases hv; exact ⟨a, c, rfl⟩⟩
theorem LastC.ex (hd : DOk R want n) (H : Nat → Option Value) (w : World) (h : LastC wr F L T R want n H w) (hn : ∃ s, s < 3 ∧ H s = none) : ∃ s v w', s < 3 ∧ H s = none ∧ LastC wr F L T R want n (setP H s v) w' := by
  obtain ⟨s, hs, he⟩ := hn
  match s, hs with
  | 0, _ => obtain ⟨_, w', v, _, h1⟩ := Calls.ex h.call0; exact ⟨0, v, w', by omega, he, h1⟩
  | 1, _ => obtain ⟨_, w', v, _, h1⟩ := Calls.ex (h.call1 hd); exact ⟨1, v, w', by omega, he, h1⟩
  | 2, _ => obtain ⟨_, w', v, _, h1⟩ := Calls.ex (h.call2 hd); exact ⟨2, v, w', by omega, he, h1⟩
theorem LastC.start (h : DevSt wr F 0 L T R) : LastC wr F L T R want n (fun _ => none) wr.drew :=
  ⟨⟨F, h.drewN 1, (Dstep.refl _ _ _).drewN 1⟩, fun v hv => (by cases hv), fun v hv => (by cases hv), fun v hv => (by cases hv)⟩
theorem LastC.at {Hf : Nat → Value} {nds : List Nat} : clsP (LastC wr F L T R want n) Hf nds w → Only (Mine F 0) wr w := fun ⟨_, _, _, h⟩ => by obtain ⟨_, _, h2⟩ := h.dev; exact h2.only
theorem LastC.only (h : LastC wr F L T R want n H w) : Only (Mine F 0) wr w := by obtain ⟨_, _, h2⟩ := h.dev; exact h2.only
theorem LastC.done {Hf : Nat → Value} (h : LastC wr F L T R want n (fullP 3 Hf) w) : Hf 0 = .pointer (some ⟨L.tb 0, 0, none⟩) ∧ Hf 1 = .int .u64 (want : Int) ∧ ∃ a c, Hf 2 = .slice a n c :=
  ⟨h.c0 _ rfl, h.c1 _ rfl, h.c2 _ rfl⟩
/-- The log's fold, one step further. -/
theorem acc_step (ls : Nat → List Nat) (st : List Nat) (k m : Nat) (h : st[k]? = some m) : accAll ls (st.take (k + 1)) = accStep ls (accAll ls (st.take k)) m := by
  rw [← accAll_snoc]
  congr 1
  rw [List.take_add_one, h]; rfl
end Go.Proofs.Ytdminbjenbbpaaa
