/- crashset: Possible and Index. -/
import Derived.Test.YtjmdibgncaljaaaK28
import Derived.Test.YtjmdibgncaljaaaQRI
import Derived.Test.YtjmdibgncaljaaaF3
namespace Go.Proofs.Ytjmdibgncaljaaa.Dev
open Go.RowKit Go.Maps Go.BigFrame
variable {w : World} {F : Own} {o T : Nat} {R : Dv} {L : Lay}
theorem find_bool (hok : R.Ok T) {pv lv hv : Value} (hs : SetSt w R pv lv hv) (ws : List Nat) (m : Nat) (hm : ws.length = m * 8) (hm2 : m ≤ 5000) (hw : ∀ x ∈ ws, x < 18446744073709551616) :
    Calls Try.prog 57 #[.agg #[pv, lv, hv], .agg #[.string (strOf (bytesL ws))]] w fun e w' => ∃ s, e = .returned (.tuple #[s, .bool (possB R ws)]) ∧ Below w.heap.size w w' := by
  refine (find_any hok hs ws m hm hm2 hw).mono fun e w' h => ?_
  unfold FindPost at h
  cases hp : possB R ws with
  | true => rw [if_pos hp] at h; obtain ⟨a, c, rfl, _, h2, _⟩ := h; exact ⟨_, rfl, h2⟩
  | false => rw [if_neg (by rw [hp]; decide)] at h; obtain ⟨rfl, h2⟩ := h; exact ⟨_, rfl, h2⟩
set_option maxHeartbeats 2000000 in
set_option maxRecDepth 100000 in
theorem possible_any (h : DevSt w F o L T R) (ws : List Nat) (m : Nat) (hm : ws.length = m * 8) (hm2 : m ≤ 5000) (hw : ∀ x ∈ ws, x < 18446744073709551616) :
    Calls Try.prog 16 #[.pointer (some ⟨L.g, 0, none⟩), .agg #[.string (strOf (bytesL ws))]] w fun e w' => e = .returned (.bool (possB R ws)) ∧ Below w.heap.size w w' := by
  generalize hpost : (fun (e : Ending) w' => e = .returned (.bool (possB R ws)) ∧ Below w.heap.size w w') = post
  have hB0 := (Below.refl _ w).alloc (Nat.le_refl _) (.cells #[.string (strOf (bytesL ws))] 53)
  have hI0 := (Has.new w [.string (strOf (bytesL ws))] 53).cell (o := 0) rfl
  obtain ⟨W0, hW0⟩ : ∃ W0, W0 = w.alloc (.cells #[.string (strOf (bytesL ws))] 53) := ⟨_, rfl⟩
  rw [← hW0] at hB0
  rw [show w.alloc (Obj.cells [Value.string (strOf (bytesL ws))].toArray 53) = W0 from hW0.symm] at hI0
  have hD0 := h.other (o' := o + 1) (Dstep.below (F := F) hB0) (by omega)
  have hex := fun wx (hb : Below W0.heap.size W0 wx) => examine_any (hD0.other (o' := o + 1) (Dstep.below (F := F) hb) (by omega))
  have hfd := fun wx pv lv hv (hs : SetSt wx R pv lv hv) => find_bool h.ok hs ws m hm hm2 hw
  have hI := fun wx (hb : Below W0.heap.size W0 wx) => (hb.cell (World.block_lt_of_cell? _ _ hI0)).trans hI0
  generalize strOf (bytesL ws) = st at *
  have kB : Below W0.heap.size W0 W0 := Below.refl _ _
  have hfin : ∀ wx, Below W0.heap.size W0 wx → post (.returned (.bool (possB R ws))) wx := fun wx hb => by rw [← hpost]; exact ⟨rfl, hB0.trans (hb.mono hB0.size)⟩
  generalize possB R ws = pb at *
  replace hex := Lib.hid hex
  replace hfd := Lib.hid hfd
  replace hI := Lib.hid hI
  replace hW0 := Lib.hid hW0
  replace hfin := Lib.hid hfin
  replace hpost := Lib.hid hpost
  clear hI0 hB0 hD0 h hw hm
  go_enter Try.func16, Try.ntmps16
  go_wp2_with fail
  rw [← hW0.out]
  refine wp_region_call2 1 3 [] [4] (C0 := fun w' => w' = W0.drew) (C1 := fun v w' => ∃ pv lv hv, v = .agg #[pv, lv, hv] ∧ SetSt w' R pv lv hv ∧ Below W0.heap.size W0 w') (C2 := fun v u w' => (∃ s, u = .tuple #[s, .bool pb]) ∧ Below W0.heap.size W0 w') (by kernel_rfl) (by kernel_rfl) (by decide) (by decide) (by kernel_rfl) (by kernel_rfl) (by kernel_rfl) rfl (fun wx hx => ?_) (fun v wx hx => ?_) (fun v u hx => ?_)
  · obtain ⟨e, w', pv, lv, hv, _, h1, h2⟩ := Calls.ex (hex.out wx (by rw [hx]; exact Fr.drew kB))
    exact ⟨_, w', pv, lv, hv, rfl, h1, Fr.step (by rw [hx]; exact Fr.drew kB) h2⟩
  · obtain ⟨pv, lv, hv, rfl, h1, h2⟩ := hx
    obtain ⟨e, w', s, _, h3⟩ := Calls.ex (hfd.out wx _ _ _ h1)
    exact ⟨_, w', ⟨s, rfl⟩, Fr.step h2 h3⟩
  · obtain ⟨w', ⟨s, rfl⟩, _⟩ := hx
    have cI0 : ∀ wx, clsAt (cls2 (fun w' => w' = W0.drew) (fun v w' => ∃ pv lv hv, v = .agg #[pv, lv, hv] ∧ SetSt w' R pv lv hv ∧ Below W0.heap.size W0 w') (fun v u w' => (∃ s, u = .tuple #[s, .bool pb]) ∧ Below W0.heap.size W0 w')) [v, .tuple #[s, .bool pb]] 0 wx → wx.cell? ⟨w.heap.size, 0, none⟩ = some (.string st) := fun wx hx => hI.out wx (by
      rcases cls2_at0 hx with h | ⟨_, _, _, _, _, h⟩ | ⟨_, h⟩
      · rw [h]; exact Fr.drew kB
      · exact h
      · exact h)
    replace cI0 := Lib.hid cI0
    refine lex_chunk 0 1 _ _ _ (fun _ _ => Nat.zero_le _) (by kernel_rfl) (fun j hj => by unfold rk2; rw [if_neg (by omega), if_neg (by omega)]) (by decide) ?_
    simp only [List.take_succ_cons, List.take_zero, List.drop_succ_cons, List.drop_zero]
    repeat (first | go_big_quiet_skip | (go_big_quiet_want; go_big_quiet_op; first | go_big_quiet_on | (refine ⟨_, fun _ _ => rfl, ?_⟩; go_big_quiet_on)))
    refine wpQuiet_nil ?_
    refine lex_call (r := 0) (v := v) rfl (by go_simp; exact rfl) rfl (by kernel_rfl) (fun wx hx => ?_) ?_
    · replace hx : wx = W0.drew := hx
      refine callUpon_mk (f := 51) (args := #[.pointer (some ⟨L.g, 0, none⟩)]) (by simp [go_sem]) ?_
      exact (hex.out wx (by rw [hx]; exact Fr.drew kB)).mono fun e w'' ⟨pv, lv, hv, he, h1, h2⟩ => ⟨_, he, pv, lv, hv, rfl, h1, Fr.step (by rw [hx]; exact Fr.drew kB) h2⟩
    refine lex_chunk 0 1 _ _ _ (fun _ _ => Nat.zero_le _) (by kernel_rfl) (fun j hj => by unfold rk2; rw [if_neg (by omega), if_neg (by omega)]) (by decide) ?_
    simp only [List.take_succ_cons, List.take_zero, List.drop_succ_cons, List.drop_zero]
    go_big_quiet_want
    go_big_quiet_op
    refine ⟨.agg #[.string st], fun wx hx => by simp [go_sem, cI0.out wx hx], ?_⟩
    go_big_quiet_on
    refine wpQuiet_nil ?_
    refine lex_call (r := 1) (v := .tuple #[s, .bool pb]) rfl (by go_simp; exact rfl) rfl (by kernel_rfl) (fun wx hx => ?_) ?_
    · obtain ⟨pv, lv, hv, rfl, h1, h2⟩ : ∃ pv lv hv, v = .agg #[pv, lv, hv] ∧ SetSt wx R pv lv hv ∧ Below W0.heap.size W0 wx := hx
      refine callUpon_mk (f := 57) (args := #[.agg #[pv, lv, hv], .agg #[.string st]]) (by simp [go_sem]) ?_
      exact (hfd.out wx _ _ _ h1).mono fun e w'' ⟨s', he, h3⟩ => ⟨_, he, ⟨s', rfl⟩, Fr.step h2 h3⟩
    refine lex_chunk 0 5 _ _ _ (fun _ _ => Nat.zero_le _) (by kernel_rfl) (fun j hj => by unfold rk2; rw [if_neg (by omega), if_neg (by omega)]) (by decide) ?_
    simp only [List.take_succ_cons, List.take_zero, List.drop_succ_cons, List.drop_zero]
    repeat (first | go_big_quiet_skip | (go_big_quiet_want; go_big_quiet_op; first | go_big_quiet_on | (refine ⟨_, fun _ _ => rfl, ?_⟩; go_big_quiet_on)))
    refine wpQuiet_nil ?_
    intro wz hz
    have hx := Lib.hid (hfin.out wz hz.2)
    clear hz cI0 hI
    simp only [Exit.then]
    go_wp2_with fail
    exact hx.out
end Go.Proofs.Ytjmdibgncaljaaa.Dev
