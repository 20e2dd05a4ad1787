/- next: one step to the next sequence. -/
import Derived.Test.YtdminbjenbbpaaaG5
import Derived.Test.YtdminbjenbbpaaaG9
import Derived.Test.YtdminbjenbbpaaaG11
import Derived.Test.YtdminbjenbbpaaaShelf3
import Derived.RegionTactic
import Derived.ChangeAlike
import Derived.BigRegion
namespace Go.Proofs.Ytdminbjenbbpaaa
open Go.RowKit
set_option maxHeartbeats 2000000 in
set_option maxRecDepth 100000 in
theorem next_none (l : List Nat) (b c : Nat) (w : World) (hv : RowAt w b l) (hl : l.length ≤ 4096) (hd : ∀ j, j + 1 < l.length → l.getD (j + 1) 0 ≤ l.getD j 0) :
    Calls Try.prog 46 #[.slice (some ⟨b, 0, none⟩) l.length c] w fun e w' => e = .returned (.bool false) ∧ ∃ d, w' = w.drewN d := by
  replace hv := Lib.hid hv
  replace hd := Lib.hid hd
  replace hl := Lib.hid hl
  go_enter Try.func46, Try.ntmps46
  go_wp2_with fail
  go_loopw [3] (fun iv wr => ∃ (q : Int) (d : Nat), -2 ≤ q ∧ q + 2 ≤ l.length ∧ iv = .int .i64 q ∧ wr = w.drewN d) (fun iv _ => ((intOf iv) + 2).toNat)
  case atStart =>
    have := hl.out
    refine ⟨(l.length : Int) - 2, 0, by omega, by omega, ?_, rfl⟩
    rw [show wrap64 ((l.length : Int) - 2) = (l.length : Int) - 2 by unfold wrap64; omega]
  case round =>
    obtain ⟨q, d, h1, h2, rfl, rfl⟩ := hrel
    by_cases h0 : 0 ≤ q
    · obtain ⟨k, rfl⟩ := Int.eq_ofNat_of_zero_le h0
      have ck := (hv.out k (by omega)).1
      have ck1 := (hv.out (k + 1) (by omega)).1
      have hge := hd.out k (by omega)
      have hge1 : decide ((l.getD (k + 1) 0 : Int) ≤ (l.getD k 0 : Int)) = true := decide_eq_true (by omega)
      have hge2 : decide (l.getD (k + 1) 0 ≤ l.getD k 0) = true := decide_eq_true hge
      have hwm : IntKind.i64.wrap ((k : Int) + 1) = ((k + 1 : Nat) : Int) := by have := hl.out; have h := IntWalk.i64_in ((k : Int) + 1) (by omega); rw [h]; rfl
      have hwk : wrap64 ((k : Int) + 1) = ((k + 1 : Nat) : Int) := by have := hl.out; unfold wrap64; omega
      have hi0 : (0 : Int) ≤ (k : Int) := by omega
      have hi1 : (k : Int) < (l.length : Int) := by omega
      have hi2 : ((k + 1 : Nat) : Int) < (l.length : Int) := by omega
      have hi3 : (0 : Int) ≤ ((k + 1 : Nat) : Int) := by omega
      have hdk : decide ((0 : Int) ≤ (k : Int)) = true := decide_eq_true hi0
      generalize l.getD k 0 = x at *
      generalize l.getD (k + 1) 0 = y at *
      have hl4 := hl.out
      go_wp2_with fail
      go_quiet (fail)
      go_wp2_with fail
      exact ⟨⟨(k : Int) - 1, _, by omega, by omega, rfl, rfl⟩, by simp [intOf]; omega⟩
    · have hdk : decide ((0 : Int) ≤ q) = false := decide_eq_false h0
      go_wp2_with fail
      go_quiet (fail)
      go_wp2_with fail
      go_ret
      exact ⟨rfl, _, rfl⟩
/-- What a step to the next sequence leaves. -/
def NextPost (w : World) (b : Nat) (l' : List Nat) : Ending → World → Prop := fun e w' =>
  e = .returned (.bool true) ∧ RowAt w' b l' ∧ (∀ n, n ≤ b → Below n w w') ∧ Only (fun k => k = b) w w'
theorem only_sets {S : Nat → Prop} {b : Nat} {a : World} (hb : S b) : ∀ (vs : List Value) (o : Nat) (w : World), Only S a w → Only S a (w.setCells b o vs)
  | [], _, _, h => h
  | v :: r, o, w, h => only_sets hb r (o + 1) _ (h.setCell (a := ⟨b, o, none⟩) (fun _ => hb) v)
set_option maxHeartbeats 2000000 in
set_option maxRecDepth 100000 in
theorem next_some (l l' : List Nat) (b c p s x y : Nat) (w : World) (hv : RowAt w b l) (hl : l.length ≤ 4096) (hc : l.length ≤ c)
    (hps : p < s) (hsl : s < l.length) (hx : l.getD p 0 = x) (hy : l.getD s 0 = y) (hxy : x < y) (hx1 : x < l.getD (p + 1) 0)
    (hd : ∀ j, p < j → j + 1 < l.length → l.getD (j + 1) 0 ≤ l.getD j 0) (hb : ∀ j, s < j → j < l.length → l.getD j 0 ≤ x)
    (hl' : ((l.set p y).set s x).take (p + 1) ++ (((l.set p y).set s x).drop (p + 1)).reverse = l') :
    Calls Try.prog 46 #[.slice (some ⟨b, 0, none⟩) l.length c] w (NextPost w b l') := by
  replace hv := Lib.hid hv
  replace hd := Lib.hid hd
  replace hb := Lib.hid hb
  replace hl := Lib.hid hl
  replace hx := Lib.hid hx
  replace hy := Lib.hid hy
  replace hx1 := Lib.hid hx1
  replace hl' := Lib.hid hl'
  go_enter Try.func46, Try.ntmps46
  go_wp2_with fail
  go_loopw [3] (fun iv wr => ∃ (k d : Nat), p ≤ k ∧ k + 2 ≤ l.length ∧ iv = .int .i64 (k : Int) ∧ wr = w.drewN d) (fun iv _ => ((intOf iv) + 2).toNat)
  case atStart =>
    have := hl.out
    refine ⟨l.length - 2, 0, by omega, by omega, ?_, rfl⟩
    rw [show wrap64 ((l.length : Int) - 2) = ((l.length - 2 : Nat) : Int) by unfold wrap64; omega]
  case round =>
    obtain ⟨k, d, h1, h2, rfl, rfl⟩ := hrel
    have ck := (hv.out k (by omega)).1
    have ck1 := (hv.out (k + 1) (by omega)).1
    have hwm : IntKind.i64.wrap ((k : Int) + 1) = ((k + 1 : Nat) : Int) := by have := hl.out; have h := IntWalk.i64_in ((k : Int) + 1) (by omega); rw [h]; rfl
    have hwk : wrap64 ((k : Int) + 1) = ((k + 1 : Nat) : Int) := by have := hl.out; unfold wrap64; omega
    have hi0 : (0 : Int) ≤ (k : Int) := by omega
    have hi1 : (k : Int) < (l.length : Int) := by omega
    have hi2 : ((k + 1 : Nat) : Int) < (l.length : Int) := by omega
    have hi3 : (0 : Int) ≤ ((k + 1 : Nat) : Int) := by omega
    have hdk : decide ((0 : Int) ≤ (k : Int)) = true := decide_eq_true hi0
    by_cases h0 : p < k
    · have hge := hd.out k h0 (by omega)
      have hge1 : decide ((l.getD (k + 1) 0 : Int) ≤ (l.getD k 0 : Int)) = true := decide_eq_true (by omega)
      have hge2 : decide (l.getD (k + 1) 0 ≤ l.getD k 0) = true := decide_eq_true hge
      generalize l.getD k 0 = x1 at *
      generalize l.getD (k + 1) 0 = y1 at *
      have hl4 := hl.out
      go_wp2_with fail
      go_quiet (fail)
      go_wp2_with fail
      refine ⟨⟨k - 1, _, by omega, by omega, ?_, rfl⟩, by simp [intOf]; omega⟩
      congr 1; omega
    · obtain rfl : k = p := by omega
      have hlt := hx1.out
      rw [hx.out] at ck
      have hge1 : decide ((l.getD (k + 1) 0 : Int) ≤ (x : Int)) = false := decide_eq_false (by omega)
      have hge2 : decide (l.getD (k + 1) 0 ≤ x) = false := decide_eq_false (by omega)
      have hdz : decide ((k : Int) < (0 : Int)) = false := decide_eq_false (by omega)
      generalize l.getD (k + 1) 0 = y1 at *
      have hl4 := hl.out
      go_wp2_with fail
      go_quiet (fail)
      go_wp2_with fail
      clear hwm hwk hi2 hi3 ck1 hge1 hge2 hlt
      go_loopw [4] (fun jv wr => ∃ (q d : Nat), s ≤ q ∧ q < l.length ∧ jv = .int .i64 (q : Int) ∧ wr = w.drewN d) (fun jv _ => (intOf jv).toNat)
      case atStart =>
        refine ⟨l.length - 1, _, by omega, by omega, ?_, rfl⟩
        first | (congr 1; omega) | (rw [show wrap64 ((l.length : Int) - 1) = ((l.length - 1 : Nat) : Int) by unfold wrap64; omega])
      case round =>
        obtain ⟨q, d2, h3, h4, rfl, rfl⟩ := hrel
        have cq := (hv.out q h4).1
        have hj0 : (0 : Int) ≤ (q : Int) := by omega
        have hj1 : (q : Int) < (l.length : Int) := by omega
        by_cases hq : s < q
        · have hle := hb.out q hq h4
          have hle1 : decide ((l.getD q 0 : Int) ≤ (x : Int)) = true := decide_eq_true (by omega)
          have hle2 : decide (l.getD q 0 ≤ x) = true := decide_eq_true hle
          generalize l.getD q 0 = z at *
          go_wp2_with fail
          try go_quiet (fail)
          go_wp2_with fail
          refine ⟨⟨q - 1, _, by omega, by omega, ?_, rfl⟩, by simp [intOf]; omega⟩
          congr 1; omega
        · obtain rfl : q = s := by omega
          rw [hy.out] at cq
          have hle1 : decide ((y : Int) ≤ (x : Int)) = false := decide_eq_false (by omega)
          have hle2 : decide (y ≤ x) = false := decide_eq_false (by omega)
          go_wp2_with fail
          try go_quiet (fail)
          go_wp2_with fail
          have hfk : w.frozen? ⟨b, k, none⟩ = false := (hv.out k (by omega)).2
          have hfq : w.frozen? ⟨b, q, none⟩ = false := (hv.out q (by omega)).2
          have hne : k ≠ q := by omega
          have hbw : ∀ D : Nat, ∃ W, W = w.drewN D ∧ W.cell? ⟨b, k, none⟩ = some (.int .i64 (x : Int)) ∧ W.cell? ⟨b, q, none⟩ = some (.int .i64 (y : Int)) ∧ W.frozen? ⟨b, k, none⟩ = false ∧ W.frozen? ⟨b, q, none⟩ = false := fun D => ⟨_, rfl, by simpa using ck, by simpa using cq, by simpa using hfk, by simpa using hfq⟩
          obtain ⟨W, hW, cW1, cW2, fW1, fW2⟩ := hbw (d2 + nq)
          rw [World.drewN_drewN, ← hW]
          replace hW := Lib.hid hW
          clear ck cq hfk hfq hbw
          go_region
          have hrow : RowAt W b l := by rw [hW.out]; exact hv.out.drewN _
          have hrow2 := ((hrow.set k y (by omega)).set q x (by rw [List.length_set]; omega)).drew
          have hbel : ∀ n, n ≤ b → Below n w ((W.setCell ⟨b, k, none⟩ (.int .i64 (y : Int))).setCell ⟨b, q, none⟩ (.int .i64 (x : Int))).drew := fun n hn => by
            rw [hW.out]
            exact (((below_drewN _ _ (Below.refl n w)).setCell (p := ⟨b, k, none⟩) hn _).setCell (p := ⟨b, q, none⟩) hn _).drew
          have honl : Only (fun k => k = b) w ((W.setCell ⟨b, k, none⟩ (.int .i64 (y : Int))).setCell ⟨b, q, none⟩ (.int .i64 (x : Int))).drew := by
            rw [hW.out]
            exact ((((Only.refl (fun k => k = b) w).drewN _).setCell (a := ⟨b, k, none⟩) (fun _ => rfl) _).setCell (a := ⟨b, q, none⟩) (fun _ => rfl) _).drew
          generalize hl2 : (l.set k y).set q x = l2 at *
          have hlen2 : l2.length = l.length := by rw [← hl2, List.length_set, List.length_set]
          generalize ((W.setCell ⟨b, k, none⟩ (.int .i64 (y : Int))).setCell ⟨b, q, none⟩ (.int .i64 (x : Int))).drew = V at *
          have hwk : wrap64 ((k : Int) + 1) = ((k + 1 : Nat) : Int) := by unfold wrap64; omega
          have hi2 : ((k + 1 : Nat) : Int) ≤ (l.length : Int) := by omega
          replace hrow2 := Lib.hid hrow2
          replace hbel := Lib.hid hbel
          replace honl := Lib.hid honl
          replace hl2 := Lib.hid hl2
          clear cW1 cW2 fW1 fW2 hrow
          have hck : k + 1 < c := by omega
          have hrevc := Try.slices_Reverse_int_cells b (k + 1) (l.length - (k + 1)) (c - (k + 1)) ((l2.drop (k + 1)).map fun (n : Nat) => (n : Int)) V (by rw [List.length_map, List.length_drop]; omega) (by omega)
            (fun j hj => by
              rw [List.length_map, List.length_drop] at hj
              rw [(hrow2.out (k + 1 + j) (by omega)).1, List.getD_eq_getElem?_getD, List.getD_eq_getElem?_getD, List.getElem?_map, List.getElem?_drop, List.getElem?_eq_getElem (by omega)]; rfl)
            (fun j hj => (hrow2.out (k + 1 + j) (by omega)).2)
          have htk : ((((l2.drop (k + 1)).map fun (n : Nat) => (n : Int)).take (l.length - (k + 1))).reverse.map (Value.int .i64)) = ((l2.drop (k + 1)).reverse.map fun (n : Nat) => Value.int .i64 (n : Int)) := by
            rw [List.take_of_length_le (by rw [List.length_map, List.length_drop]; omega), ← List.map_reverse, List.map_map]; rfl
          rw [htk] at hrevc
          replace hrevc := Lib.hid hrevc
          clear htk
          go_wp2_with fail
          refine hrevc.out.mono ?_
          rintro e w' ⟨rfl, r, rfl⟩
          go_wp2_with fail
          go_ret
          have hfin := (hrow2.out.drewN r).rev (k + 1) (by omega)
          rw [hl'.out, List.map_reverse, List.map_drop] at hfin
          exact ⟨rfl, hfin, fun n hn => below_sets hn _ _ _ (below_drewN _ _ (hbel.out n hn)), only_sets (S := fun k => k = b) rfl _ _ _ (honl.out.drewN _)⟩
end Go.Proofs.Ytdminbjenbbpaaa
