/- Walks: the undo log's Recover. -/
import Derived.Test.YtjmdibgncaljaaaUQ
import Derived.Test.YtjmdibgncaljaaaV0
namespace Go.Proofs.Ytjmdibgncaljaaa
open Go.RowKit Go.Lib Dev
variable {w : World} {F : Own} {T : Nat} {L : Lay} {R : Dv} {lb : Nat}
/-- The flushes of a program that restores these words. -/
def FlS (S : List (Nat × Nat)) (fl : List Nat) : Prop := (∀ y, y ∈ fl ↔ y ∈ S.map fun p => p.1 / 64 * 64) ∧ fl.length ≤ S.length
def recL (S : List (Nat × Nat)) (fl : List Nat) : List In := storesI S fl ++ storesI [(0, 0)] [0]
/-- Region 4: Stores, setCount, Then, Run. -/
def RcC (w0 : World) (F : Own) (L : Lay) (T : Nat) (R : Dv) (S : List (Nat × Nat)) : List Value → World → Prop
  | [], w => Below w0.heap.size w0 w
  | [a], w => ∃ oa n oc fl, a = .slice oa n oc ∧ FlS S fl ∧ (storesI S fl).length = n ∧ Rd w (.slice oa n oc) n (inCells (storesI S fl)) ∧ Below w0.heap.size w0 w
  | [a, b], w => ∃ oa n oc fl ob od, a = .slice oa n oc ∧ b = .slice ob 3 od ∧ FlS S fl ∧ (storesI S fl).length = n ∧ Rd w (.slice oa n oc) n (inCells (storesI S fl)) ∧ Rd w (.slice ob 3 od) 3 (inCells (storesI [(0, 0)] [0])) ∧ Below w0.heap.size w0 w
  | [_, _, c], w => ∃ oa n oc fl, c = .slice oa n oc ∧ FlS S fl ∧ (recL S fl).length = n ∧ RowB w0 85 3 n (inCells (recL S fl)) oa oc w
  | [_, _, _, d], w => d = .int .i64 0 ∧ ∃ F' T' fl, FlS S fl ∧ T' ≤ 99000 ∧ DevSt w F' 0 L T' ((recL S fl).foldl devI R) ∧ Dstep w0 F 0 w F'
  | _, _ => False
theorem RcC.log {w0 w : World} {S : List (Nat × Nat)} {lb tb : Nat} (hg : LogAt w0 lb tb) (hF : F lb = none) : ∀ {vs : List Value}, RcC w0 F L T R S vs w → LogAt w lb tb
  | [], h => hg.below h
  | [_], ⟨_, _, _, _, _, _, _, _, h⟩ => hg.below h
  | [_, _], ⟨_, _, _, _, _, _, _, _, _, _, _, _, h⟩ => hg.below h
  | [_, _, _], ⟨_, _, _, _, _, _, _, h⟩ => hg.below h.b
  | [_, _, _, _], ⟨_, _, _, _, _, _, _, h⟩ => Has.only hg h.only (fun ⟨r, e⟩ => by rw [hF] at e; cases e)
  | _ :: _ :: _ :: _ :: _ :: _, h => h.elim
/-- The contracts of the four calls. -/
structure RcK (w0 : World) (F : Own) (L : Lay) (T : Nat) (R : Dv) (S : List (Nat × Nat)) (lb : Nat) (sa : Option Addr) (sc n : Nat) : Prop where
  k0 : ∀ w, RcC w0 F L T R S [] w → Calls Try.prog 67 #[.slice sa n sc] w fun e w' => ∃ v, e = .returned v ∧ RcC w0 F L T R S [v] w'
  k1 : ∀ w a, RcC w0 F L T R S [a] w → Calls Try.prog 69 #[.pointer (some ⟨lb, 0, none⟩), .int .i64 0] w fun e w' => ∃ v, e = .returned v ∧ RcC w0 F L T R S [a, v] w'
  k2 : ∀ w a b, RcC w0 F L T R S [a, b] w → Calls Try.prog 68 #[a, b] w fun e w' => ∃ v, e = .returned v ∧ RcC w0 F L T R S [a, b, v] w'
  k3 : ∀ w a b c, RcC w0 F L T R S [a, b, c] w → Calls Try.prog 32 #[c, .iface 67 (.pointer (some ⟨L.tb 0, 0, none⟩))] w fun e w' => ∃ v, e = .returned v ∧ RcC w0 F L T R S [a, b, c, v] w'
theorem RcK.ex {w0 : World} {S : List (Nat × Nat)} {sa : Option Addr} {sc n : Nat} (h : RcK w0 F L T R S lb sa sc n) : ∀ (vs : List Value) (w : World), vs.length < 4 → RcC w0 F L T R S vs w → ∃ v w', RcC w0 F L T R S (vs ++ [v]) w'
  | [], w, _, hw => by obtain ⟨e, w', v, _, hv⟩ := Calls.ex (h.k0 w hw); exact ⟨v, w', hv⟩
  | [a], w, _, hw => by obtain ⟨e, w', v, _, hv⟩ := Calls.ex (h.k1 w a hw); exact ⟨v, w', hv⟩
  | [a, b], w, _, hw => by obtain ⟨e, w', v, _, hv⟩ := Calls.ex (h.k2 w a b hw); exact ⟨v, w', hv⟩
  | [a, b, c], w, _, hw => by obtain ⟨e, w', v, _, hv⟩ := Calls.ex (h.k3 w a b c hw); exact ⟨v, w', hv⟩
  | [_, _, _, _], _, hl, _ => by simp at hl
  | _ :: _ :: _ :: _ :: _ :: _, _, hl, _ => by simp at hl; omega
theorem fit_stores {S : List (Nat × Nat)} {fl : List Nat} (hS : ∀ p ∈ S, p.1 % 8 = 0 ∧ p.1 < 640 ∧ p.2 < 18446744073709551616) (hfl : ∀ y ∈ fl, y % 8 = 0 ∧ y < 640) : ∀ x ∈ storesI S fl, FitT x := by
  intro x hx
  unfold storesI at hx
  rcases List.mem_append.1 hx with hx | hx
  · rcases List.mem_append.1 hx with hx | hx
    · obtain ⟨p, hp, rfl⟩ := List.mem_map.1 hx
      obtain ⟨h1, h2, h3⟩ := hS p hp
      exact ⟨⟨by show 1 ≤ 1 ∧ 1 ≤ 3; decide, Nat.lt_trans h2 (by decide), h1, h3⟩, h2⟩
    · obtain ⟨y, hy, rfl⟩ := List.mem_map.1 hx
      obtain ⟨h1, h2⟩ := hfl y hy
      exact ⟨⟨by show 1 ≤ 2 ∧ 2 ≤ 3; decide, Nat.lt_trans h2 (by decide), h1, by show 0 < _; decide⟩, h2⟩
  · rw [List.mem_singleton.1 hx]
    exact ⟨⟨by show 1 ≤ 3 ∧ 3 ≤ 3; decide, by show 0 < 4096; decide, rfl, by show 0 < _; decide⟩, by show 0 < 640; decide⟩
theorem FlS.fit {S : List (Nat × Nat)} {fl : List Nat} (h : FlS S fl) (hS : ∀ p ∈ S, p.1 % 8 = 0 ∧ p.1 < 640 ∧ p.2 < 18446744073709551616) : ∀ y ∈ fl, y % 8 = 0 ∧ y < 640 := fun y hy => by
  obtain ⟨p, hp, rfl⟩ := List.mem_map.1 ((h.1 y).1 hy)
  have := hS p hp
  omega
theorem fit_rec {S : List (Nat × Nat)} {fl : List Nat} (hS : ∀ p ∈ S, p.1 % 8 = 0 ∧ p.1 < 640 ∧ p.2 < 18446744073709551616) (h : FlS S fl) : ∀ x ∈ recL S fl, FitT x := by
  intro x hx
  rcases List.mem_append.1 hx with hx | hx
  · exact fit_stores hS (h.fit hS) x hx
  · exact fit_stores (S := [(0, 0)]) (fl := [0]) (by intro p hp; rw [List.mem_singleton.1 hp]; decide) (by intro p hp; rw [List.mem_singleton.1 hp]; decide) x hx
theorem stores_len (S : List (Nat × Nat)) (fl : List Nat) : (storesI S fl).length = S.length + fl.length + 1 := by unfold storesI; simp; omega
theorem rck_mk {w0 : World} (h : DevSt w0 F 0 L T R) (hF : ∀ k, w0.heap.size ≤ k → F k = none) (hT : T ≤ 90000) (hO : Ok10 R) (hg : LogAt w0 lb (L.tb 0)) {S : List (Nat × Nat)} (hS8 : S.length ≤ 8) (hS0 : S ≠ [])
    (hS : ∀ p ∈ S, p.1 % 8 = 0 ∧ p.1 < 640 ∧ p.2 < 18446744073709551616) {sa : Option Addr} {sc n : Nat} (hn : S.length = n) (hr : Rd w0 (.slice sa n sc) n (wcells S)) : RcK w0 F L T R S lb sa sc n := by
  refine ⟨fun w hw => ?_, fun w a hw => ?_, fun w a b hw => ?_, fun w a b c hw => ?_⟩
  · have hb : Below w0.heap.size w0 w := hw
    subst hn
    refine (ustores_any S (by omega) (fun p hp => Nat.lt_trans (hS p hp).2.1 (by decide)) sa sc w (hr.kept hb)).mono ?_
    rintro e w' ⟨oa, oc, fl, rfl, h1, h2, h3, h4, _⟩
    have e3 : storesL S fl = storesI S fl := by unfold storesL; rw [if_neg hS0]
    rw [e3] at h3 ⊢
    exact ⟨_, rfl, oa, _, oc, fl, rfl, ⟨h1, h2⟩, rfl, h3, hb.trans (h4.mono hb.size)⟩
  · obtain ⟨oa, m, oc, fl, rfl, h1, h2, h3, hb⟩ := hw
    refine (usetcount_any (hg.below hb) 0 (by decide)).mono ?_
    rintro e w' ⟨ob, od, fl2, rfl, g1, g2, g3, g4, _⟩
    obtain rfl := one_zero g1 g2
    have e5 : storesL [((0 : Nat), (0 : Nat))] [0] = storesI [(0, 0)] [0] := by unfold storesL; rw [if_neg (by simp)]
    rw [e5] at g3 ⊢
    exact ⟨_, rfl, oa, m, oc, fl, ob, od, rfl, rfl, h1, h2, h3.kept g4, g3, hb.trans (g4.mono hb.size)⟩
  · obtain ⟨oa, m, oc, fl, ob, od, rfl, rfl, h1, h2, h3, h4, hb⟩ := hw
    subst h2
    have hl := stores_len S fl
    have hfl := h1.2
    refine (uthen_any (storesI S fl) (storesI [(0, 0)] [0]) (by omega) (by decide) (by rw [show (storesI [((0 : Nat), (0 : Nat))] [0]).length = 3 from rfl]; omega) oa ob oc od w h3 h4).mono ?_
    rintro e w' ⟨oe, of, rfl, hB⟩
    exact ⟨_, rfl, oe, _, of, fl, rfl, h1, rfl, hB.from hb⟩
  · obtain ⟨oa, m, oc, fl, rfl, h1, h2, hB⟩ := hw
    subst h2
    have hl : (recL S fl).length = S.length + fl.length + 1 + 3 := by unfold recL; rw [List.length_append, stores_len]; rfl
    have hfl := h1.2
    have hft := fit_rec hS h1
    have hD : DevSt w F 0 L T R := h.below hB.b
    refine (prun2 hD oa oc (recL S fl) (fun x hx => (hft x hx).f) (by omega) (by omega) hB.rd (fun k hk => hF k (hB.ob k hk))).mono ?_
    rintro e w' ⟨F', rfl, g1, g2, _⟩
    have hO' := hO.run hft
    rw [hO'.er]
    exact ⟨_, rfl, rfl, F', _, fl, h1, by omega, g1, (Dstep.below hB.b).trans g2⟩
def RecP (w : World) (F : Own) (L : Lay) (R : Dv) (e : Ending) (w' : World) : Prop := ∃ F' T' fl m, e = .returned (.tuple #[.int .i64 m, .int .i64 0]) ∧ T' ≤ 99000 ∧ DevSt w' F' 0 L T' (recD R fl) ∧ Dstep w F 0 w' F' ∧ ∀ y, y ∈ fl ↔ y ∈ (savedV R).map fun p => p.1 / 64 * 64
set_option maxHeartbeats 8000000 in
set_option maxRecDepth 100000 in
theorem urec_any (h : DevSt w F 0 L T R) (hT : T ≤ 80000) (hO : Ok10 R) (hg : LogAt w lb (L.tb 0)) (hFl : F lb = none) (hSb : ∀ p ∈ savedV R, okOff p.1 = true ∧ p.2 < 18446744073709551616) :
    Calls Try.prog 75 #[.pointer (some ⟨lb, 0, none⟩)] w (RecP w F L R) := by
  have hlt : ∀ p ∈ savedV R, p.1 < 18446744073709551616 := fun p hp => by have := okOff_iff.1 (hSb p hp).1; omega
  have hld := uload_any h hO.lv hO.er hO.len hg hlt
  have hS8 : (savedV R).length ≤ 8 := by rw [savedV_len]; exact cntV2_le R
  have hws : wsV (savedV R) = savedV R := by unfold wsV; rw [List.filter_eq_self]; exact fun p hp => (hSb p hp).1
  unfold LoadP at hld
  rw [hws] at hld
  generalize hpost : RecP w F L R = post
  by_cases hS0 : savedV R = []
  · have hf : ∀ w', Below w.heap.size w w' → post (.returned (.tuple #[.int .i64 0, .int .i64 0])) w' := fun w' hb => by
      rw [← hpost]
      have hrd : recD R [] = R := by unfold recD; rw [if_pos hS0]
      exact ⟨F, T, [], 0, rfl, by omega, by rw [hrd]; exact h.below hb, Dstep.below hb, by rw [hS0]; intro y; simp⟩
    replace hf := Lib.hid hf
    rw [hS0] at hld
    replace hld := Lib.hid hld
    clear hpost hlt hws hSb h hg hO hS8
    go_enter Try.func75, Try.ntmps75
    go_wp2_with fail
    refine hld.out.mono ?_
    rintro e w2 ⟨sa, sc, rfl, hB⟩
    have hf2 := Lib.hid (hf.out w2 hB.b)
    clear hB
    have hd : decide (([] : List (Nat × Nat)).length = 0) = true := rfl
    go_wp2_with fail
    first | exact hf2.out | (go_ret; exact hf2.out)
  · obtain ⟨S, hS⟩ : ∃ S, savedV R = S := ⟨_, rfl⟩
    rw [hS] at hld hS8 hS0 hSb
    obtain ⟨n, hn⟩ : ∃ n, S.length = n := ⟨_, rfl⟩
    have hn0 : n ≠ 0 := fun e => hS0 (List.length_eq_zero_iff.1 (by omega))
    have hzb : decide (n = 0) = false := decide_eq_false hn0
    have hSf : ∀ p ∈ S, p.1 % 8 = 0 ∧ p.1 < 640 ∧ p.2 < 18446744073709551616 := fun p hp => by
      obtain ⟨g1, g2⟩ := hSb p hp
      have := okOff_iff.1 g1
      exact ⟨this.1, this.2.2, g2⟩
    rw [hn, hzb] at hld
    have hmk : ∀ w2 sa sc, RowB w 133 2 n (wcells S) sa sc w2 → RcK w2 (F.trim w2) L T R S lb sa sc n ∧ LogAt w2 lb (L.tb 0) ∧ F.trim w2 lb = none ∧ Below w.heap.size w w2 := fun w2 sa sc hB => by
      have hD2 : DevSt w2 F 0 L T R := h.below hB.b
      have hlg := hg.below hB.b
      refine ⟨rck_mk hD2.trim (fun k hk => F.trim_new w2 hk) (by omega) hO hlg hS8 hS0 hSf hn hB.rd, hlg, ?_, hB.b⟩
      unfold Own.trim
      split
      · exact hFl
      · rfl
    have hfin : ∀ w2 F' T' fl w' , Below w.heap.size w w2 → FlS S fl → T' ≤ 99000 → DevSt w' F' 0 L T' ((recL S fl).foldl devI R) → Dstep w2 (F.trim w2) 0 w' F' → post (.returned (.tuple #[.int .i64 n, .int .i64 0])) w' := fun w2 F' T' fl w' hb h1 h2 h3 h4 => by
      rw [← hpost]
      have hrd : recD R fl = (recL S fl).foldl devI R := by unfold recD; rw [hS, if_neg hS0]; rfl
      refine ⟨F', T', fl, n, rfl, h2, by rw [hrd]; exact h3, ?_, by rw [hS]; exact h1.1⟩
      have h5 : Dstep w2 F 0 w' F' := ⟨fun k hk => (h4.ext k hk).trans (F.trim_ext w2 k hk), h4.only.mono fun k hk ⟨r, e⟩ => ⟨r, by rw [F.trim_ext w2 k hk] at e; exact e⟩⟩
      exact (Dstep.below hb).trans h5
    have hms := fun w => m_err ⟨L.tb 0, 0, none⟩ w
    replace hld := Lib.hid hld
    replace hmk := Lib.hid hmk
    replace hfin := Lib.hid hfin
    clear hpost hlt hws hSb h hg hO hS8 hSf hn hS hzb hn0 hms
    go_enter Try.func75, Try.ntmps75
    go_wp2_with fail
    refine hld.out.mono ?_
    rintro e w2 ⟨sa, sc, rfl, hB⟩
    obtain ⟨hK, hlg, hF2, hb2⟩ := hmk.out w2 sa sc hB
    obtain ⟨F2, hF2e⟩ : ∃ F2, F.trim w2 = F2 := ⟨_, rfl⟩
    rw [hF2e] at hK hF2
    have hfin2 := hfin.out w2
    rw [hF2e] at hfin2
    replace hfin2 := Lib.hid (fun F' T' fl w' => hfin2 F' T' fl w' hb2)
    replace hK := Lib.hid hK
    replace hlg := Lib.hid hlg
    replace hF2 := Lib.hid hF2
    clear hB hld hmk hF2e hfin hb2
    go_upto_region 4 with fail
    refine wp_region_part [1, 3, 4, 9] [[], [0], [1], [2]] [] (ChC (RcC w2 F2 L T R S) 4) (by kernel_rfl) (by kernel_rfl) (by kernel_rfl) (ChC.start (show Below w2.heap.size w2 w2.drew from (Below.refl _ _).drew)) (ChC.ex hK.out.ex) (fun Hf hx => ?_)
    obtain ⟨w', hx⟩ := hx
    have hdone := hx.done
    have kA : ∀ {nds : List Nat} {wx : World}, clsP (ChC (RcC w2 F2 L T R S) 4) Hf nds wx → LogAt wx lb (L.tb 0) := fun h => by
      obtain ⟨vs, _, h2, _⟩ := ChC.at h
      exact h2.log hlg.out hF2.out
    have v3e : Hf 3 = .int .i64 0 := hdone.1
    obtain ⟨x0, v0e⟩ : ∃ x, Hf 0 = x := ⟨_, rfl⟩
    obtain ⟨x1, v1e⟩ : ∃ x, Hf 1 = x := ⟨_, rfl⟩
    obtain ⟨x2, v2e⟩ : ∃ x, Hf 2 = x := ⟨_, rfl⟩
    clear hdone hx
    refine part_chunk [] 1 0 _ _ (by kernel_rfl) (by kernel_rfl) (by decide) ?_
    simp only [List.take_succ_cons, List.take_zero, List.drop_succ_cons, List.drop_zero]
    iterate 1 (go_big_quiet_want; go_big_quiet_op; first | go_big_quiet_on | (refine ⟨_, fun _ _ => rfl, ?_⟩; go_big_quiet_on))
    refine wpQuiet_nil ?_
    refine part_step (s := 0) v0e (by go_simp; exact rfl) (by kernel_rfl) (by kernel_rfl) (fun H wx hs' hn' hp' hc' => ?_) ?_
    · obtain ⟨vs', hl', hPh, _, hk'⟩ := ChC.step hc' hn' (.inl rfl) (by decide) hs'
      match vs', hl', hPh with
      | [], _, hPh =>
        refine callUpon_mk (f := 67) (args := #[.slice sa n sc]) (by simp [go_sem]) ?_
        exact (hK.out.k0 wx hPh).mono fun e w'' ⟨v, he, hv⟩ => ⟨v, he, hk' _ _ hv⟩
    refine part_chunk [] 1 _ _ _ (by kernel_rfl) (by kernel_rfl) (by decide) ?_
    simp only [List.take_succ_cons, List.take_zero, List.drop_succ_cons, List.drop_zero]
    iterate 1 (go_big_quiet_want; go_big_quiet_op; first | go_big_quiet_on | (refine ⟨_, fun _ _ => rfl, ?_⟩; go_big_quiet_on))
    refine wpQuiet_nil ?_
    refine part_step (s := 1) v1e (by go_simp; exact rfl) (by kernel_rfl) (by kernel_rfl) (fun H wx hs' hn' hp' hc' => ?_) ?_
    · obtain ⟨vs', hl', hPh, hj', hk'⟩ := ChC.step hc' hn' (.inr (hp' 0 (by simp))) (by decide) hs'
      match vs', hl', hPh, hj', hk' with
      | [r0], _, hPh, hj', hk' =>
        refine callUpon_mk (f := 69) (args := #[.pointer (some ⟨lb, 0, none⟩), .int .i64 0]) (by simp [go_sem]) ?_
        exact (hK.out.k1 wx r0 hPh).mono fun e w'' ⟨v, he, hv⟩ => ⟨v, he, hk' _ _ hv⟩
    refine part_step (s := 2) v2e (by go_simp; exact rfl) (by kernel_rfl) (by kernel_rfl) (fun H wx hs' hn' hp' hc' => ?_) ?_
    · obtain ⟨vs', hl', hPh, hj', hk'⟩ := ChC.step hc' hn' (.inr (hp' 1 (by simp))) (by decide) hs'
      match vs', hl', hPh, hj', hk' with
      | [r0, r1], _, hPh, hj', hk' =>
        have e0 := hj' 0 r0 rfl
        have e1 := hj' 1 r1 rfl
        rw [v0e] at e0
        rw [v1e] at e1
        subst e0 e1
        refine callUpon_mk (f := 68) (args := #[x0, x1]) (by simp [go_sem]) ?_
        exact (hK.out.k2 wx x0 x1 hPh).mono fun e w'' ⟨v, he, hv⟩ => ⟨v, he, hk' _ _ hv⟩
    refine part_chunk [] 4 _ _ _ (by kernel_rfl) (by kernel_rfl) (by decide) ?_
    simp only [List.take_succ_cons, List.take_zero, List.drop_succ_cons, List.drop_zero]
    iterate 3 (go_big_quiet_want; go_big_quiet_op; first | go_big_quiet_on | (refine ⟨_, fun _ _ => rfl, ?_⟩; go_big_quiet_on))
    go_big_quiet_want; go_big_quiet_op
    refine ⟨.iface 67 (.pointer (some ⟨L.tb 0, 0, none⟩)), fun wx hx => ?_, ?_⟩
    · rw [Has.cell (kA hx) (o := 0) rfl]
      exact ⟨rfl, rfl⟩
    go_big_quiet_on
    refine wpQuiet_nil ?_
    refine part_step (s := 3) v3e (by go_simp; exact rfl) (by kernel_rfl) (by kernel_rfl) (fun H wx hs' hn' hp' hc' => ?_) ?_
    · obtain ⟨vs', hl', hPh, hj', hk'⟩ := ChC.step hc' hn' (.inr (hp' 2 (by simp))) (by decide) hs'
      match vs', hl', hPh, hj', hk' with
      | [r0, r1, r2], _, hPh, hj', hk' =>
        have e2 := hj' 2 r2 rfl
        rw [v2e] at e2
        subst e2
        refine callUpon_mk (f := 32) (args := #[x2, .iface 67 (.pointer (some ⟨L.tb 0, 0, none⟩))]) (by simp [go_sem]) ?_
        exact (hK.out.k3 wx r0 r1 x2 hPh).mono fun e w'' ⟨v, he, hv⟩ => ⟨v, he, hk' _ _ hv⟩
    refine part_chunk [] 1 _ _ _ (by kernel_rfl) (by kernel_rfl) (by decide) ?_
    simp only [List.take_succ_cons, List.take_zero, List.drop_succ_cons, List.drop_zero]
    iterate 1 (go_big_quiet_want; go_big_quiet_op; first | go_big_quiet_on | (refine ⟨_, fun _ _ => rfl, ?_⟩; go_big_quiet_on))
    refine wpQuiet_nil ?_
    intro w7 hz7
    obtain ⟨_, F', T', fl, g1, g2, g3, g4⟩ := hz7.done
    have hf := Lib.hid (hfin2.out F' T' fl w7 g1 g2 g3 g4)
    clear hz7 g1 g2 g3 g4 kA v0e v1e v2e v3e
    go_wp2_with fail
    first | exact hf.out | (go_ret; exact hf.out)
end Go.Proofs.Ytjmdibgncaljaaa
