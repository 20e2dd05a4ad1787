/- Walks: cmp.Less, bits.Len of few, insertion sort, Sort and Compact of words: which words there are stays. -/
import Derived.Test.YtjmdibgncaljaaaUD
import Derived.BigRegion
import Derived.RegionTactic
namespace Go.Proofs.Ytjmdibgncaljaaa
open Go.RowKit Dev Go.BigFrame
theorem wp_region_quietC {P : Program} {C : World → Prop} {id : Nat} {Q : Exit → Act → World → Prop} {a : Act} {w : World} {l : List Oper} (hm : P.follows .mixedOrders = true) (hB : Region.lexB .any l.toArray = true) (hC : C w.drew)
    (h : wpQuiet P l.toArray C (fun a' => ∀ w', C w' → Q .normal a' w') l a) : (Code.region id l.toArray true).wp P Q a w :=
  wp_region_quiet (C := C) hm hB hC (by simpa using h)
theorem nan_any (x : Nat) (w : World) : Calls Try.prog 128 #[.int .u64 (x : Int)] w (RS w (.bool false)) := by
  have e : ((x : Int) != (x : Int)) = false := by simp
  go_enter Try.func128, Try.ntmps128
  go_wp2_with fail
  go_ret
  exact ⟨rfl, rfl⟩
theorem less_any (x y : Nat) (w : World) : Calls Try.prog 118 #[.int .u64 (x : Int), .int .u64 (y : Int)] w (RS w (.bool (decide (x < y)))) := by
  have hn := Lib.hid (nan_any x w)
  obtain ⟨z, hz⟩ : ∃ z, decide (x < y) = z := ⟨_, rfl⟩
  rw [hz]
  go_enter Try.func118, Try.ntmps118
  go_wp2_with fail
  refine hn.out.mono ?_
  rintro e w' ⟨rfl, rfl⟩
  go_wp2_with fail
  go_ret
  exact ⟨rfl, rfl⟩
def lenP (x : Nat) : Nat := if x = 0 then 0 else if x = 1 then 1 else if x ≤ 3 then 2 else if x ≤ 7 then 3 else 4
set_option maxRecDepth 100000 in
theorem len64_any (x : Nat) (hx : x ≤ 12) (w : World) : Calls Try.prog 122 #[.int .u64 (x : Int)] w (RS w (.int .i64 ((lenP x : Nat) : Int))) := by
  obtain rfl | rfl | rfl | rfl | rfl | rfl | rfl | rfl | rfl | rfl | rfl | rfl | rfl : x = 0 ∨ x = 1 ∨ x = 2 ∨ x = 3 ∨ x = 4 ∨ x = 5 ∨ x = 6 ∨ x = 7 ∨ x = 8 ∨ x = 9 ∨ x = 10 ∨ x = 11 ∨ x = 12 := by omega
  all_goals
    go_enter Try.func122, Try.ntmps122
    go_wp2_with fail
    go_ret
    exact ⟨by kernel_rfl, rfl⟩
theorem len_any (x : Nat) (hx : x ≤ 12) (w : World) : Calls Try.prog 110 #[.int .u64 (x : Int)] w (RS w (.int .i64 ((lenP x : Nat) : Int))) := by
  have hl := Lib.hid (len64_any x hx w)
  go_enter Try.func110, Try.ntmps110
  go_wp2_with fail
  refine hl.out.mono ?_
  rintro e w' ⟨rfl, rfl⟩
  go_wp2_with fail
  go_ret
  exact ⟨rfl, rfl⟩
/-- The same words, in whatever order. -/
structure Mix (ys zs : List Nat) : Prop where
  l : zs.length = ys.length
  m : ∀ y, y ∈ zs ↔ y ∈ ys
theorem Mix.refl (ys : List Nat) : Mix ys ys := ⟨rfl, fun _ => Iff.rfl⟩
theorem Mix.swap {ys zs : List Nat} (h : Mix ys zs) {i j : Nat} (hi : i < zs.length) (hj : j < zs.length) : Mix ys ((zs.set i (zs.getD j 0)).set j (zs.getD i 0)) := by
  have gi : zs.getD i 0 = zs[i] := by rw [List.getD, List.getElem?_eq_getElem hi]; rfl
  have gj : zs.getD j 0 = zs[j] := by rw [List.getD, List.getElem?_eq_getElem hj]; rfl
  refine ⟨by simp [h.l], fun y => ?_⟩
  rw [← h.m y]
  constructor
  · intro hy
    rcases List.mem_or_eq_of_mem_set hy with h1 | rfl
    · rcases List.mem_or_eq_of_mem_set h1 with h2 | rfl
      · exact h2
      · rw [gj]; exact List.getElem_mem hj
    · rw [gi]; exact List.getElem_mem hi
  · intro hy
    obtain ⟨k, hk, rfl⟩ := List.mem_iff_getElem.1 hy
    by_cases e1 : k = i
    · subst e1
      refine List.mem_iff_getElem.2 ⟨j, by simpa using hj, ?_⟩
      rw [List.getElem_set_self, gi]
    · by_cases e2 : k = j
      · subst e2
        refine List.mem_iff_getElem.2 ⟨i, by simpa using hi, ?_⟩
        rw [List.getElem_set_ne (fun e => e1 e), List.getElem_set_self, gj]
      · refine List.mem_iff_getElem.2 ⟨k, by simpa using hk, ?_⟩
        rw [List.getElem_set_ne (fun e => e2 e.symm), List.getElem_set_ne (fun e => e1 e.symm)]
structure RowC (w : World) (blk : Nat) (zs : List Nat) (wx : World) : Prop where
  h : Has wx blk (u64s zs) 27
  o : Only (fun k => k = blk) w wx
/-- The words of the block have been mixed. -/
def MixP (w : World) (blk : Nat) (ys : List Nat) (e : Ending) (w' : World) : Prop := ∃ zs, e = .returned (.tuple #[]) ∧ Mix ys zs ∧ Has w' blk (u64s zs) 27 ∧ Only (fun k => k = blk) w w'
set_option maxHeartbeats 4000000 in
set_option maxRecDepth 100000 in
theorem ins_any (blk cap : Nat) (ys : List Nat) (hl : ys.length ≤ 1000) (w : World) (hH : Has w blk (u64s ys) 27) :
    Calls Try.prog 112 #[.slice (some ⟨blk, 0, none⟩) ys.length cap, .int .i64 0, .int .i64 (ys.length : Int)] w (MixP w blk ys) := by
  generalize hpost : MixP w blk ys = post
  have hfin : ∀ zs w', Mix ys zs → Has w' blk (u64s zs) 27 → Only (fun k => k = blk) w w' → post (.returned (.tuple #[])) w' := fun zs w' h1 h2 h3 => by rw [← hpost]; exact ⟨zs, rfl, h1, h2, h3⟩
  clear hpost
  obtain ⟨n, hn⟩ : ∃ n, ys.length = n := ⟨_, rfl⟩
  rw [hn] at hl ⊢
  replace hfin := Lib.hid hfin
  have hless := Lib.hid (fun x y w => less_any x y w)
  have hst0 : Mix ys ys ∧ Has w blk (u64s ys) 27 ∧ Only (fun k => k = blk) w w := ⟨.refl _, hH, .refl _ _⟩
  clear hH
  replace hst0 := Lib.hid hst0
  replace hn := Lib.hid hn
  go_enter Try.func112, Try.ntmps112
  go_wp2_with fail
  go_loopw [6] (fun i wr => ∃ (k : Nat) (zs : List Nat), 1 ≤ k ∧ i = .int .i64 (k : Int) ∧ Mix ys zs ∧ Has wr blk (u64s zs) 27 ∧ Only (fun k => k = blk) w wr) (fun i _ => n - (RowKit.intOf i).toNat)
  case atStart => exact ⟨1, ys, Nat.le_refl _, rfl, hst0.out⟩
  case round =>
    clear hst0
    obtain ⟨k, zs, hk1, rfl, hm, hB, hO⟩ := hrel
    by_cases hlt : ¬ (k < n)
    · have kd : decide ((k : Int) < (n : Int)) = false := decide_eq_false (by omega)
      have k1 : ¬ (k : Int) < (n : Int) := by omega
      have hf := Lib.hid (hfin.out zs wr hm hB hO)
      clear hm hB hO
      go_wp2_with fail
      exact bodyPost_end (results_none rfl _ _ _) rfl hf.out
    · replace hlt := Classical.not_not.1 hlt
      have kd : decide ((k : Int) < (n : Int)) = true := decide_eq_true (by omega)
      have k1 : (k : Int) < (n : Int) := by omega
      have kw := Lib.hid (show wrap64 ((k : Int) + 1) = ((k + 1 : Nat) : Int) from by unfold wrap64; omega)
      have hst1 := Lib.hid (show Mix ys zs ∧ Has wr blk (u64s zs) 27 ∧ Only (fun k => k = blk) w wr from ⟨hm, hB, hO⟩)
      clear hm hB hO
      go_wp2_with fail
      go_loopw [7] (fun i wr => ∃ (q : Nat) (zs : List Nat), i = .int .i64 (q : Int) ∧ q ≤ k ∧ Mix ys zs ∧ Has wr blk (u64s zs) 27 ∧ Only (fun k => k = blk) w wr) (fun i _ => (RowKit.intOf i).toNat)
      case atStart => exact ⟨k, zs, rfl, Nat.le_refl _, hst1.out⟩
      case round =>
        clear hst1
        obtain ⟨q, zs, rfl, hq, hm, hB, hO⟩ := hrel
        have hzl : zs.length = n := hm.l.trans hn.out
        by_cases h0 : q = 0
        · subst h0
          have d0 : decide ((0 : Int) < ((0 : Nat) : Int)) = false := rfl
          have hst2 := Lib.hid (show Mix ys zs ∧ Has wr blk (u64s zs) 27 ∧ Only (fun k => k = blk) w wr from ⟨hm, hB, hO⟩)
          clear hm hB hO
          go_upto_region 4 with fail
          go_quiet (fail)
          go_wp2_with fail
          first | rw [kw.out] | skip
          go_roundw
          case rel => exact ⟨k + 1, zs, by omega, rfl, hst2.out.1, hst2.out.2.1.drewN _, hst2.out.2.2.drewN _⟩
          case measure => simp [RowKit.intOf]; omega
        · obtain ⟨p, rfl⟩ : ∃ p, q = p + 1 := ⟨q - 1, by omega⟩
          have d0 : decide ((0 : Int) < ((p + 1 : Nat) : Int)) = true := decide_eq_true (by omega)
          have pw := Lib.hid (show wrap64 (((p + 1 : Nat) : Int) - 1) = (p : Int) from by unfold wrap64; omega)
          have e1 : zs[p + 1]? = some (zs.getD (p + 1) 0) := get_of_lt 0 (by omega)
          have e0 : zs[p]? = some (zs.getD p 0) := get_of_lt 0 (by omega)
          have c1 := hB.cell (o := p + 1) (u64s_get _ _ _ e1)
          have c0 := hB.cell (o := p) (u64s_get _ _ _ e0)
          obtain ⟨x, hx⟩ : ∃ x, zs.getD (p + 1) 0 = x := ⟨_, rfl⟩
          obtain ⟨y, hy⟩ : ∃ y, zs.getD p 0 = y := ⟨_, rfl⟩
          have hmx := hm.swap (i := p + 1) (j := p) (by omega) (by omega)
          rw [hx] at c1 hmx
          rw [hy] at c0 hmx
          obtain ⟨z, hz⟩ : ∃ z, decide (x < y) = z := ⟨_, rfl⟩
          have hle : ∀ w, Calls Try.prog 118 #[.int .u64 (x : Int), .int .u64 (y : Int)] w (RS w (.bool z)) := fun w => by rw [← hz]; exact hless.out x y w
          replace hle := Lib.hid hle
          have b1 : ((p + 1 : Nat) : Int) < (n : Int) := by omega
          have b0 : (p : Int) < (n : Int) := by omega
          have hst2 := Lib.hid (show Mix ys zs ∧ Has wr blk (u64s zs) 27 ∧ Only (fun k => k = blk) w wr from ⟨hm, hB, hO⟩)
          replace hmx := Lib.hid hmx
          rw [hx] at e1
          rw [hy] at e0
          replace e0 := Lib.hid e0
          replace e1 := Lib.hid e1
          clear hm hB hO hz hx hy c0 c1
          go_upto_region 4 with fail
          refine wp_region_quietC (C := RowC w blk zs) (by kernel_rfl) (by kernel_rfl) ⟨hst2.out.2.1.drew, hst2.out.2.2.drew⟩ ?_
          go_big_quiet_want; go_big_quiet_op; first | go_big_quiet_on | (refine ⟨_, fun _ _ => rfl, ?_⟩; go_big_quiet_on)
          go_big_quiet_want; go_big_quiet_op; first | go_big_quiet_on | (refine ⟨_, fun _ _ => rfl, ?_⟩; go_big_quiet_on)
          go_big_quiet_want; go_big_quiet_op
          refine ⟨.bool true, fun wx hx => by simp [go_sem]; try omega, ?_⟩
          go_big_quiet_on
          go_big_quiet_want; go_big_quiet_op; first | go_big_quiet_on | (refine ⟨_, fun _ _ => rfl, ?_⟩; go_big_quiet_on)
          go_big_quiet_want; go_big_quiet_op; first | go_big_quiet_on | (refine ⟨_, fun _ _ => rfl, ?_⟩; go_big_quiet_on)
          go_big_quiet_want; go_big_quiet_op; first | go_big_quiet_on | (refine ⟨_, fun _ _ => rfl, ?_⟩; go_big_quiet_on)
          go_big_quiet_want; go_big_quiet_op
          refine ⟨.pointer (some ⟨blk, p + 1, none⟩), fun wx hx => by simp [go_sem]; try omega, ?_⟩
          go_big_quiet_on
          go_big_quiet_want; go_big_quiet_op
          refine ⟨.int .u64 (x : Int), fun wx hx => by simp [go_sem, hx.h.cell (u64s_get _ _ _ e1.out)], ?_⟩
          go_big_quiet_on
          go_big_quiet_want; go_big_quiet_op; first | go_big_quiet_on | (refine ⟨_, fun _ _ => rfl, ?_⟩; go_big_quiet_on)
          go_big_quiet_want; go_big_quiet_op; first | go_big_quiet_on | (refine ⟨_, fun _ _ => rfl, ?_⟩; go_big_quiet_on)
          go_big_quiet_want; go_big_quiet_op
          refine ⟨.int .i64 (p : Int), fun wx hx => by simp [go_sem, pw.out]; try omega, ?_⟩
          go_big_quiet_on
          go_big_quiet_want; go_big_quiet_op
          refine ⟨.pointer (some ⟨blk, p, none⟩), fun wx hx => by simp [go_sem]; try omega, ?_⟩
          go_big_quiet_on
          go_big_quiet_want; go_big_quiet_op
          refine ⟨.int .u64 (y : Int), fun wx hx => by simp [go_sem, hx.h.cell (u64s_get _ _ _ e0.out)], ?_⟩
          go_big_quiet_on
          go_big_quiet_want; go_big_quiet_op
          refine ⟨.bool z, fun wx hx => (hle.out wx).mono fun e w2 h12 => ⟨h12.1, h12.2 ▸ hx⟩, ?_⟩
          go_big_quiet_on
          go_big_quiet_want; go_big_quiet_op
          refine ⟨.bool z, fun wx hx => by first | rfl | (simp [go_sem]; done), ?_⟩
          go_big_quiet_on
          refine wpQuiet_nil ?_
          intro wz hz2
          obtain ⟨hBz, hOz⟩ := hz2
          have hstz := Lib.hid (show Mix ys zs ∧ Has wz blk (u64s zs) 27 ∧ Only (fun k => k = blk) w wz from ⟨hst2.out.1, hBz, hOz⟩)
          clear hst2
          cases z with
          | false =>
            go_wp2_with fail
            first | rw [kw.out] | skip
            go_roundw
            case rel => exact ⟨k + 1, zs, by omega, rfl, hstz.out.1, hstz.out.2.1, hstz.out.2.2⟩
            case measure => simp [RowKit.intOf]; omega
          | true =>
            have c1 := hBz.cell (u64s_get _ _ _ e1.out)
            have c0 := hBz.cell (u64s_get _ _ _ e0.out)
            have f1 := hBz.free (p + 1)
            have f0 := hBz.free p
            have pw2 := pw.out
            clear hBz hOz
            go_upto_region 6 with fail
            go_region
            have hst3 := Lib.hid (show Mix ys ((zs.set (p + 1) y).set p x) ∧ Has ((wz.setCell ⟨blk, p + 1, none⟩ (.int .u64 (y : Int))).setCell ⟨blk, p, none⟩ (.int .u64 (x : Int))).drew blk (u64s ((zs.set (p + 1) y).set p x)) 27 ∧ Only (fun k => k = blk) w ((wz.setCell ⟨blk, p + 1, none⟩ (.int .u64 (y : Int))).setCell ⟨blk, p, none⟩ (.int .u64 (x : Int))).drew from
              ⟨hmx.out, by rw [u64s_set, u64s_set]; exact ((hstz.out.2.1.set (p + 1) _).set p _).drew, ((hstz.out.2.2.setCell (a := ⟨blk, p + 1, none⟩) (fun _ => rfl) _).setCell (a := ⟨blk, p, none⟩) (fun _ => rfl) _).drew⟩)
            clear hstz c1 c0 f1 f0 pw2
            go_wp2_with fail
            first | rw [pw.out] | skip
            go_roundw
            case rel => exact ⟨p, _, rfl, by omega, hst3.out.1, hst3.out.2.1, hst3.out.2.2⟩
            case measure => simp [RowKit.intOf]; try omega
set_option maxHeartbeats 4000000 in
set_option maxRecDepth 100000 in
theorem pdq_any (blk cap : Nat) (ys : List Nat) (hl : ys.length ≤ 12) (lm : Int) (w : World) (hH : Has w blk (u64s ys) 27) :
    Calls Try.prog 109 #[.slice (some ⟨blk, 0, none⟩) ys.length cap, .int .i64 0, .int .i64 (ys.length : Int), .int .i64 lm] w (MixP w blk ys) := by
  have hin := ins_any blk cap ys (by omega) w hH
  generalize hpost : MixP w blk ys = post at hin ⊢
  have hfin : ∀ e w', MixP w blk ys e w' → post e w' := fun e w' h => by rw [← hpost]; exact h
  rw [← hpost] at hin
  clear hpost hH
  replace hin := Lib.hid hin
  replace hfin := Lib.hid hfin
  obtain ⟨n, hn⟩ : ∃ n, ys.length = n := ⟨_, rfl⟩
  rw [hn] at hin hl ⊢
  replace hn := Lib.hid hn
  have d12 : decide ((n : Int) ≤ 12) = true := decide_eq_true (by omega)
  have nw : wrap64 ((n : Int) - 0) = (n : Int) := by unfold wrap64; omega
  replace nw := Lib.hid nw
  go_enter Try.func109, Try.ntmps109
  go_wp2_with fail
  go_loopw [1, 2] (fun i j wr => i = .int .i64 0 ∧ j = .int .i64 (n : Int) ∧ w = wr) (fun _ _ _ => 0)
  case atStart => exact ⟨rfl, rfl, rfl⟩
  case round =>
    obtain ⟨rfl, rfl, rfl⟩ := hrel
    go_wp2_with fail
    refine hin.out.mono ?_
    rintro e w' ⟨zs, rfl, h1, h2, h3⟩
    have hf := Lib.hid (hfin.out _ w' ⟨zs, rfl, h1, h2, h3⟩)
    clear h2 h3
    go_wp2_with fail
    exact bodyPost_end (results_none rfl _ _ _) rfl hf.out
theorem usort_any (blk cap : Nat) (ys : List Nat) (hl : ys.length ≤ 12) (w : World) (hH : Has w blk (u64s ys) 27) :
    Calls Try.prog 99 #[.slice (some ⟨blk, 0, none⟩) ys.length cap] w (MixP w blk ys) := by
  have hp := Lib.hid (fun lm => pdq_any blk cap ys hl lm w hH)
  have hln := Lib.hid (len_any ys.length hl w)
  generalize hpost : MixP w blk ys = post at hp ⊢
  have hfin : ∀ e w', MixP w blk ys e w' → post e w' := fun e w' h => by rw [← hpost]; exact h
  rw [← hpost] at hp
  clear hpost hH
  replace hfin := Lib.hid hfin
  obtain ⟨n, hn⟩ : ∃ n, ys.length = n := ⟨_, rfl⟩
  rw [hn] at hp hl hln ⊢
  replace hn := Lib.hid hn
  go_enter Try.func99, Try.ntmps99
  go_wp2_with fail
  refine hln.out.mono ?_
  rintro e w' ⟨rfl, rfl⟩
  go_wp2_with fail
  refine (hp.out _).mono ?_
  rintro e w' ⟨zs, rfl, h1, h2, h3⟩
  have hf := Lib.hid (hfin.out _ w' ⟨zs, rfl, h1, h2, h3⟩)
  clear h2 h3
  go_wp2_with fail
  exact bodyPost_end (results_none rfl _ _ _) rfl hf.out
end Go.Proofs.Ytjmdibgncaljaaa
