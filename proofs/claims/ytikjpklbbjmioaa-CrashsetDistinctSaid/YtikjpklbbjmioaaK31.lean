/- crashset: the reference's line and least. -/
import Derived.Test.YtikjpklbbjmioaaK26
import Derived.Test.YtikjpklbbjmioaaF3
namespace Go.Proofs.Ytikjpklbbjmioaa
open Go.RowKit Go.Maps
variable {w : World} {R : Dv} {T : Nat}
theorem bytesL_inj {xs ys : List Nat} (hl : xs.length = ys.length) (hx : ∀ x ∈ xs, x < 18446744073709551616) (hy : ∀ y ∈ ys, y < 18446744073709551616) (h : bytesL xs = bytesL ys) : xs = ys := by
  have hb : ∀ i, i < xs.length * 8 → byteAt xs i = byteAt ys i := fun i hi => by
    have h1 := bytesL_get xs i hi
    have h2 := bytesL_get ys i (by omega)
    rw [h, h2] at h1
    injection h1 with h1
    exact h1.symm
  have hp : ∀ i, i ≤ xs.length * 8 → partL xs i = partL ys i := by
    intro i
    induction i with
    | zero => intro _; rw [partL_zero, partL_zero, hl]
    | succ i ih =>
      intro hi
      rw [partL_succ xs i (by omega), partL_succ ys i (by omega), ih (by omega), hb i (by omega)]
  have h1 := partL_all xs hx
  have h2 := partL_all ys hy
  rw [← h1, ← h2, hp _ (Nat.le_refl _), hl]
theorem str_eq {xs ys : List Nat} (hl : xs.length = ys.length) (hx : ∀ x ∈ xs, x < 18446744073709551616) (hy : ∀ y ∈ ys, y < 18446744073709551616) : ((strOf (bytesL xs)).toList == (strOf (bytesL ys)).toList) = decide (xs = ys) := by
  by_cases e : xs = ys
  · subst e; simp
  · rw [decide_eq_false e]
    cases hb : ((strOf (bytesL xs)).toList == (strOf (bytesL ys)).toList) with
    | false => rfl
    | true =>
      exfalso
      have h1 := eq_of_beq hb
      have h2 : strOf (bytesL xs) = strOf (bytesL ys) := by
        rw [ByteArray.toList_eq, ByteArray.toList_eq] at h1
        exact ByteArray.ext (Array.toList_inj.1 h1)
      exact e (bytesL_inj hl hx hy (strOf_inj (bytesL_256 _) (bytesL_256 _) h2))
set_option maxHeartbeats 4000000 in
set_option maxRecDepth 100000 in
theorem rline_any (l : Ln) (k : Nat) (va : Option Addr) (vc : Nat) (dn : Int) (hb : l.base.length = 8) (hbl : ∀ x ∈ l.base, x < 18446744073709551616) (hk : k ≤ l.hist.length) (hl : l.hist.length ≤ 100000) (hr : Rd w (.slice va l.hist.length vc) l.hist.length (wcells l.hist)) (hp : ∀ p ∈ l.hist, p.1 < 18446744073709551616 ∧ p.2 < 18446744073709551616) :
    Calls Try.prog 102 #[.agg #[.int .u64 ((wat l.base 0 : Nat) : Int), .int .u64 ((wat l.base 1 : Nat) : Int), .int .u64 ((wat l.base 2 : Nat) : Int), .int .u64 ((wat l.base 3 : Nat) : Int), .int .u64 ((wat l.base 4 : Nat) : Int), .int .u64 ((wat l.base 5 : Nat) : Int), .int .u64 ((wat l.base 6 : Nat) : Int), .int .u64 ((wat l.base 7 : Nat) : Int), .slice va l.hist.length vc, .int .i64 dn], .int .i64 (k : Int)] w fun e w' => e = .returned (.string (strOf (bytesL (wordsL l k)))) ∧ Below w.heap.size w w' := by
  generalize hpost : (fun (e : Ending) w' => e = .returned (.string (strOf (bytesL (wordsL l k)))) ∧ Below w.heap.size w w') = post
  have hwl : (wordsL l k).length = 8 := by rw [wordsL_len]; exact hb
  have hwlt := wordsL_lt hbl (fun p h => (hp p h).2) k
  obtain ⟨W0, hW0⟩ : ∃ W0, W0 = w.alloc (.cells #[.int .u64 ((wat l.base 0 : Nat) : Int), .int .u64 ((wat l.base 1 : Nat) : Int), .int .u64 ((wat l.base 2 : Nat) : Int), .int .u64 ((wat l.base 3 : Nat) : Int), .int .u64 ((wat l.base 4 : Nat) : Int), .int .u64 ((wat l.base 5 : Nat) : Int), .int .u64 ((wat l.base 6 : Nat) : Int), .int .u64 ((wat l.base 7 : Nat) : Int), .slice va l.hist.length vc, .int .i64 dn] 122) := ⟨_, rfl⟩
  have hB0 : Below w.heap.size w W0 := by rw [hW0]; exact (Below.refl _ _).alloc (Nat.le_refl _) _
  have hRow : Has W0 w.heap.size [.int .u64 ((wat l.base 0 : Nat) : Int), .int .u64 ((wat l.base 1 : Nat) : Int), .int .u64 ((wat l.base 2 : Nat) : Int), .int .u64 ((wat l.base 3 : Nat) : Int), .int .u64 ((wat l.base 4 : Nat) : Int), .int .u64 ((wat l.base 5 : Nat) : Int), .int .u64 ((wat l.base 6 : Nat) : Int), .int .u64 ((wat l.base 7 : Nat) : Int), .slice va l.hist.length vc, .int .i64 dn] 122 := by rw [hW0]; exact Has.new w [.int .u64 ((wat l.base 0 : Nat) : Int), .int .u64 ((wat l.base 1 : Nat) : Int), .int .u64 ((wat l.base 2 : Nat) : Int), .int .u64 ((wat l.base 3 : Nat) : Int), .int .u64 ((wat l.base 4 : Nat) : Int), .int .u64 ((wat l.base 5 : Nat) : Int), .int .u64 ((wat l.base 6 : Nat) : Int), .int .u64 ((wat l.base 7 : Nat) : Int), .slice va l.hist.length vc, .int .i64 dn] 122
  obtain ⟨W1, hW1⟩ : ∃ W1, W1 = W0.alloc (.cells #[] 5) := ⟨_, rfl⟩
  have hG1 : Grow W0 W1 5 (some ⟨W0.heap.size, 0, none⟩) (bytesL ((wordsL l k).take 0)).length 0 (u8s (bytesL ((wordsL l k).take 0))) := by rw [hW1]; exact Grow.empty W0 5
  have hwd := words_any W1 l k va vc hb hk hl (hr.kept (hB0.trans (hG1.b.mono hB0.size))) hp dn
  have hRow1 := hRow.alloc (.cells #[] 5)
  have c0 := hRow1.cell (o := 0) rfl
  have c1 := hRow1.cell (o := 1) rfl
  have c2 := hRow1.cell (o := 2) rfl
  have c3 := hRow1.cell (o := 3) rfl
  have c4 := hRow1.cell (o := 4) rfl
  have c5 := hRow1.cell (o := 5) rfl
  have c6 := hRow1.cell (o := 6) rfl
  have c7 := hRow1.cell (o := 7) rfl
  have c8 := hRow1.cell (o := 8) rfl
  have c9 := hRow1.cell (o := 9) rfl
  have htk : ∀ j, j < 8 → (wordsL l k).take (j + 1) = (wordsL l k).take j ++ [wat (wordsL l k) j] := fun j hj => take_getD _ j 0 (by omega)
  have hfin : ∀ wx, Below W0.heap.size W0 wx → post (.returned (.string (strOf (bytesL (wordsL l k))))) wx := fun wx h => by rw [← hpost]; exact ⟨rfl, hB0.trans (h.mono hB0.size)⟩
  have hs0 : W0.heap.size = w.heap.size + 1 := by rw [hW0]; simp
  have e0 : W0.alloc (.cells #[] 5) = (w.alloc (.cells #[.int .u64 ((wat l.base 0 : Nat) : Int), .int .u64 ((wat l.base 1 : Nat) : Int), .int .u64 ((wat l.base 2 : Nat) : Int), .int .u64 ((wat l.base 3 : Nat) : Int), .int .u64 ((wat l.base 4 : Nat) : Int), .int .u64 ((wat l.base 5 : Nat) : Int), .int .u64 ((wat l.base 6 : Nat) : Int), .int .u64 ((wat l.base 7 : Nat) : Int), .slice va l.hist.length vc, .int .i64 dn] 122)).alloc (.cells #[] 5) := by rw [hW0]
  rw [e0] at c0 c1 c2 c3 c4 c5 c6 c7 c8 c9
  have e1 : W1 = (w.alloc (.cells #[.int .u64 ((wat l.base 0 : Nat) : Int), .int .u64 ((wat l.base 1 : Nat) : Int), .int .u64 ((wat l.base 2 : Nat) : Int), .int .u64 ((wat l.base 3 : Nat) : Int), .int .u64 ((wat l.base 4 : Nat) : Int), .int .u64 ((wat l.base 5 : Nat) : Int), .int .u64 ((wat l.base 6 : Nat) : Int), .int .u64 ((wat l.base 7 : Nat) : Int), .slice va l.hist.length vc, .int .i64 dn] 122)).alloc (.cells #[] 5) := by rw [hW1, hW0]
  have hwd2 := hwd
  rw [e1] at hwd2
  generalize hws : wordsL l k = ws at *
  replace hpost := Lib.hid hpost
  replace hfin := Lib.hid hfin
  replace hws := Lib.hid hws
  replace hwd := Lib.hid hwd
  replace hwd2 := Lib.hid hwd2
  replace hW1 := Lib.hid hW1
  replace hW0 := Lib.hid hW0
  replace e0 := Lib.hid e0
  replace e1 := Lib.hid e1
  replace htk := Lib.hid htk
  replace hwl := Lib.hid hwl
  replace hG1 := Lib.hid hG1
  replace hB0 := Lib.hid hB0
  replace hs0 := Lib.hid hs0
  replace hb := Lib.hid hb
  clear hRow hRow1 hr hp hbl
  go_enter Try.func102, Try.ntmps102
  go_wp2_with fail
  refine hwd2.out.mono ?_
  rintro e w2 ⟨rfl, hB2⟩
  rw [← e1.out] at hB2
  have hG2 := Lib.hid (hG1.out.below hB2)
  clear c0 c1 c2 c3 c4 c5 c6 c7 c8 c9 hwd hwd2 hB2 hG1
  go_wp2_with fail
  go_loopw [5, 13] (fun v j wr => ∃ (m : Nat) (a : Option Addr) (c : Nat), m ≤ 8 ∧ j = .int .i64 (m : Int) ∧ v = .slice a (bytesL (ws.take m)).length c ∧ Grow W0 wr 5 a (bytesL (ws.take m)).length c (u8s (bytesL (ws.take m)))) (fun _ j _ => 8 - (intOf j).toNat)
  case atStart => rw [← hs0.out]; exact ⟨0, _, 0, by omega, rfl, rfl, hG2.out⟩
  case round =>
    clear hG2
    obtain ⟨m, am, cm, hm, rfl, rfl, hGm⟩ := hrel
    by_cases hm8 : m < 8
    · have em : decide ((m : Int) < 8) = true := by simp; omega
      have hm0 : (0 : Int) ≤ (m : Int) := by omega
      have hix := fun w => index_aggI ws m hm8 w
      have hx64 : wat ws m < 18446744073709551616 := hwlt _ (List.mem_of_getElem? (get_of_lt 0 (by rw [hwl.out]; exact hm8)))
      have htm := htk.out m hm8
      have hlen : (bytesL (ws.take m)).length ≤ 300000 := by
        rw [bytesL_len, List.length_take]; omega
      have hwm : wrap64 ((m : Int) + 1) = (m : Int) + 1 := (by unfold wrap64; omega)
      have hGm0 : Grow W0 wr 5 am (bytesL (ws.take m) ++ byteTo (wat ws m) 0).length cm (u8s (bytesL (ws.take m) ++ byteTo (wat ws m) 0)) := by simpa [byteTo] using hGm
      replace htm := Lib.hid htm
      generalize hxx : wat ws m = x at *
      generalize hBB : bytesL (ws.take m) = B at *
      replace hxx := Lib.hid hxx
      replace hBB := Lib.hid hBB
      replace hGm0 := Lib.hid hGm0
      replace hm8 := Lib.hid hm8
      replace hm := Lib.hid hm
      replace hwm := Lib.hid hwm
      clear hGm
      go_wp2_with fail
      go_loopw [5, 7, 8] (fun v wv b wr => ∃ (b' : Nat) (a : Option Addr) (c : Nat), b' ≤ 8 ∧ b = .int .i64 b' ∧ wv = .int .u64 ((x / 256 ^ b' : Nat) : Int) ∧ v = .slice a (B ++ byteTo x b').length c ∧ Grow W0 wr 5 a (B ++ byteTo x b').length c (u8s (B ++ byteTo x b'))) (fun _ _ b _ => 8 - (intOf b).toNat)
      case atStart => exact ⟨0, am, cm, by omega, rfl, by simp, by simp [byteTo], hGm0.out⟩
      case round =>
        clear hix hGm0
        obtain ⟨b, ab, cb, hb, rfl, rfl, rfl, hGb⟩ := hrel
        by_cases hb8 : b < 8
        · have eb : decide ((b : Int) < 8) = true := by simp; omega
          have hb0 : (0 : Int) ≤ (b : Int) := by omega
          have hy1 : x / 256 ^ (b + 1) = x / 256 ^ b / 256 := by rw [Nat.pow_succ, Nat.div_div_eq_div_mul]
          have hy64 : x / 256 ^ b < 18446744073709551616 := Nat.lt_of_le_of_lt (Nat.div_le_self _ _) hx64
          have hbs := byteTo_succ x b
          have hBl : (B ++ byteTo x b).length ≤ 300008 := by rw [List.length_append, byteTo_len]; omega
          have hcat : B ++ byteTo x (b + 1) = (B ++ byteTo x b) ++ [x / 256 ^ b % 256] := by rw [hbs, List.append_assoc]
          generalize hXX : B ++ byteTo x b = X at *
          generalize hyy : x / 256 ^ b = y at *
          have hyI : (y : Int) < 18446744073709551616 := by omega
          have hby : (X.length + 1) * 1 ≤ 140737488355328 := by omega
          have hwb : wrap64 ((b : Int) + 1) = (b : Int) + 1 := (by unfold wrap64; omega)
          replace hy1 := Lib.hid hy1
          replace hbs := Lib.hid hbs
          replace hcat := Lib.hid hcat
          replace hXX := Lib.hid hXX
          replace hyy := Lib.hid hyy
          replace hb8 := Lib.hid hb8
          replace hb := Lib.hid hb
          replace hwb := Lib.hid hwb
          go_wp2_with (at_builtin; go_loud (refine wpList_app1 rfl (.tmp 20) (.tmp 23) 31 rfl 5 (.int .u8 0) 1 Try.underlying31 infoU8 rfl (by decide) ab X.length cb (u8s X) rfl (.int .u8 ((y : Int) % 256)) _ _ rfl rfl hGb.own _ rfl rfl (by simp [Value.oneCell']) hby ?_); intro sa cap w3 own2 only2 fresh2)
          have hG4 := hGb.app own2 only2 fresh2
          have hG5 : Grow W0 w3 5 sa (B ++ byteTo x (b + 1)).length cap (u8s (B ++ byteTo x (b + 1))) := by
            rw [hcat.out, u8s_snoc]; simpa using hG4
          have hrel : ∃ (b' : Nat) (a : Option Addr) (c : Nat), b' ≤ 8 ∧ Value.int .i64 ((b : Int) + 1) = .int .i64 b' ∧ Value.int .u64 ((y : Int) / 256) = .int .u64 ((x / 256 ^ b' : Nat) : Int) ∧ Value.slice sa (X.length + 1) cap = .slice a (B ++ byteTo x b').length c ∧ Grow W0 w3 5 a (B ++ byteTo x b').length c (u8s (B ++ byteTo x b')) := by
            refine ⟨b + 1, sa, cap, by have := hb8.out; omega, by go_num, ?_, ?_, hG5⟩
            · rw [hy1.out]; simp
            · rw [hcat.out]; simp
          replace hrel := Lib.hid hrel
          clear own2 only2 fresh2 hG4 hG5 hGb
          go_wp2_with fail
          go_roundw
          case rel => rw [hwb.out]; exact hrel.out
          case measure => have := hb8.out; rw [hwb.out]; simp [intOf]; omega
        · obtain rfl : b = 8 := by omega
          have hG6 : Grow W0 wr 5 ab (bytesL (ws.take (m + 1))).length cb (u8s (bytesL (ws.take (m + 1)))) := by
            rw [htm.out, bytesL_snoc, hBB.out]; exact hGb
          have hsl : Value.slice ab (B ++ byteTo x 8).length cb = .slice ab (bytesL (ws.take (m + 1))).length cb := by rw [htm.out, bytesL_snoc, hBB.out]
          have hrel : ∃ (m' : Nat) (a : Option Addr) (c : Nat), m' ≤ 8 ∧ Value.int .i64 ((m : Int) + 1) = .int .i64 (m' : Int) ∧ Value.slice ab (B ++ byteTo x 8).length cb = .slice a (bytesL (ws.take m')).length c ∧ Grow W0 wr 5 a (bytesL (ws.take m')).length c (u8s (bytesL (ws.take m'))) :=
            ⟨m + 1, ab, cb, by have := hm8.out; omega, by go_num, hsl, hG6⟩
          replace hrel := Lib.hid hrel
          clear hsl hG6 hGb
          generalize (B ++ byteTo x 8).length = bl8 at *
          go_wp2_with fail
          rw [hwm.out]
          exact ⟨hrel.out, by have := hm8.out; simp [intOf]; omega⟩
    · obtain rfl : m = 8 := by omega
      have e8 : ws.take 8 = ws := List.take_of_length_le (by rw [hwl.out]; omega)
      rw [e8] at hGm ⊢
      have hst := hGm.str (bytesL_256 _) (by rw [bytesL_len, hwl.out]; omega) wr (Below.refl _ _)
      have hx := Lib.hid (hfin.out wr hGm.b)
      replace e8 := Lib.hid e8
      generalize (bytesL ws).length = bl at *
      clear hGm
      go_wp2_with fail
      exact hx.out
set_option maxHeartbeats 4000000 in
set_option maxRecDepth 100000 in
theorem rleast_any (l : Ln) (tg : List Nat) (va : Option Addr) (vc : Nat) (dn : Int) (hb : l.base.length = 8) (hbl : ∀ x ∈ l.base, x < 18446744073709551616) (ht8 : tg.length = 8) (htl : ∀ x ∈ tg, x < 18446744073709551616) (hl : l.hist.length ≤ 100000) (hr : Rd w (.slice va l.hist.length vc) l.hist.length (wcells l.hist)) (hp : ∀ p ∈ l.hist, p.1 < 18446744073709551616 ∧ p.2 < 18446744073709551616) :
    Calls Try.prog 58 #[.agg #[.int .u64 ((wat l.base 0 : Nat) : Int), .int .u64 ((wat l.base 1 : Nat) : Int), .int .u64 ((wat l.base 2 : Nat) : Int), .int .u64 ((wat l.base 3 : Nat) : Int), .int .u64 ((wat l.base 4 : Nat) : Int), .int .u64 ((wat l.base 5 : Nat) : Int), .int .u64 ((wat l.base 6 : Nat) : Int), .int .u64 ((wat l.base 7 : Nat) : Int), .slice va l.hist.length vc, .int .i64 dn], .string (strOf (bytesL tg))] w fun e w' => e = .returned (.int .i64 (leastI l tg)) ∧ Below w.heap.size w w' := by
  generalize hpost : (fun (e : Ending) w' => e = .returned (.int .i64 (leastI l tg)) ∧ Below w.heap.size w w') = post
  have hwl : ∀ k, (wordsL l k).length = 8 := fun k => by rw [wordsL_len]; exact hb
  have hwlt := wordsL_lt hbl (fun p h => (hp p h).2)
  obtain ⟨W0, hW0⟩ : ∃ W0, W0 = w.alloc (.cells #[.int .u64 ((wat l.base 0 : Nat) : Int), .int .u64 ((wat l.base 1 : Nat) : Int), .int .u64 ((wat l.base 2 : Nat) : Int), .int .u64 ((wat l.base 3 : Nat) : Int), .int .u64 ((wat l.base 4 : Nat) : Int), .int .u64 ((wat l.base 5 : Nat) : Int), .int .u64 ((wat l.base 6 : Nat) : Int), .int .u64 ((wat l.base 7 : Nat) : Int), .slice va l.hist.length vc, .int .i64 dn] 122) := ⟨_, rfl⟩
  have hB0 : Below w.heap.size w W0 := by rw [hW0]; exact (Below.refl _ _).alloc (Nat.le_refl _) _
  have hRow : Has W0 w.heap.size [.int .u64 ((wat l.base 0 : Nat) : Int), .int .u64 ((wat l.base 1 : Nat) : Int), .int .u64 ((wat l.base 2 : Nat) : Int), .int .u64 ((wat l.base 3 : Nat) : Int), .int .u64 ((wat l.base 4 : Nat) : Int), .int .u64 ((wat l.base 5 : Nat) : Int), .int .u64 ((wat l.base 6 : Nat) : Int), .int .u64 ((wat l.base 7 : Nat) : Int), .slice va l.hist.length vc, .int .i64 dn] 122 := by rw [hW0]; exact Has.new w [.int .u64 ((wat l.base 0 : Nat) : Int), .int .u64 ((wat l.base 1 : Nat) : Int), .int .u64 ((wat l.base 2 : Nat) : Int), .int .u64 ((wat l.base 3 : Nat) : Int), .int .u64 ((wat l.base 4 : Nat) : Int), .int .u64 ((wat l.base 5 : Nat) : Int), .int .u64 ((wat l.base 6 : Nat) : Int), .int .u64 ((wat l.base 7 : Nat) : Int), .slice va l.hist.length vc, .int .i64 dn] 122
  have hlc := fun k (hk : k ≤ l.hist.length) wx (h : Below W0.heap.size W0 wx) => rline_any (w := wx) l k va vc dn hb hbl hk hl (hr.kept (hB0.trans (h.mono hB0.size))) hp
  have hfin : ∀ (k : Nat) (wx : World), Below W0.heap.size W0 wx → leastL l tg = some k → post (.returned (.int .i64 (k : Int))) wx := fun k wx h1 h2 => by
    rw [← hpost]; exact ⟨by rw [(leastI_some h2).1], hB0.trans (h1.mono hB0.size)⟩
  have hfin2 : ∀ (wx : World), Below W0.heap.size W0 wx → leastL l tg = none → post (.returned (.int .i64 (-1))) wx := fun wx h1 h2 => by
    rw [← hpost]; exact ⟨by rw [leastI_none h2], hB0.trans (h1.mono hB0.size)⟩
  have hse := fun k => str_eq ((hwl k).trans ht8.symm) (hwlt k) htl
  replace hpost := Lib.hid hpost
  replace hfin := Lib.hid hfin
  replace hfin2 := Lib.hid hfin2
  replace hlc := Lib.hid hlc
  replace hse := Lib.hid hse
  replace hRow := Lib.hid hRow
  replace hW0 := Lib.hid hW0
  replace hB0 := Lib.hid hB0
  replace hwl := Lib.hid hwl
  replace hb := Lib.hid hb
  replace ht8 := Lib.hid ht8
  clear hr hp hbl hwlt htl
  go_enter Try.func58, Try.ntmps58
  go_wp2_with fail
  rw [← hW0.out]
  go_loopw [5] (fun iv wr => ∃ k : Nat, k ≤ l.hist.length + 1 ∧ iv = .int .i64 (k : Int) ∧ Below W0.heap.size W0 wr ∧ ∀ j, j < k → wordsL l j ≠ tg) (fun iv _ => l.hist.length + 1 - (intOf iv).toNat)
  case atStart => exact ⟨0, Nat.zero_le _, rfl, Below.refl _ _, fun j h => absurd h (Nat.not_lt_zero j)⟩
  case round =>
    obtain ⟨k, hk, rfl, hBr, hno⟩ := hrel
    have hRow := hRow.out.only (Only.of_below hBr) (Nat.not_le.2 hRow.out.lt)
    have c8 := hRow.cell (o := 8) rfl
    by_cases hlt : k ≤ l.hist.length
    · have hkI : decide ((k : Int) ≤ (l.hist.length : Int)) = true := decide_eq_true (by omega)
      have hkN : decide (k ≤ l.hist.length) = true := decide_eq_true hlt
      have hlk := hlc.out k hlt wr hBr
      have hsk := hse.out k
      have c0 := hRow.cell (o := 0) rfl
      have c1 := hRow.cell (o := 1) rfl
      have c2 := hRow.cell (o := 2) rfl
      have c3 := hRow.cell (o := 3) rfl
      have c4 := hRow.cell (o := 4) rfl
      have c5 := hRow.cell (o := 5) rfl
      have c6 := hRow.cell (o := 6) rfl
      have c7 := hRow.cell (o := 7) rfl
      have c9 := hRow.cell (o := 9) rfl
      have hkq := least_some (l := l) hlt hno
      have hfk := hfin.out k
      have hwk := Lib.hid (show wrap64 ((k : Int) + 1) = (k : Int) + 1 by unfold wrap64; omega)
      replace hlk := Lib.hid hlk
      replace hno := Lib.hid hno
      clear hRow
      by_cases he : wordsL l k = tg
      · rw [decide_eq_true he] at hsk
        have hfk := Lib.hid (fun wx h => hfk wx h (hkq he))
        clear hkq
        replace he := Lib.hid he
        generalize strOf (bytesL (wordsL l k)) = s1 at *
        generalize strOf (bytesL tg) = s2 at *
        go_wp2_with fail
        refine hlk.out.mono ?_
        rintro e w2 ⟨rfl, hB2⟩
        have hx := Lib.hid (hfk.out w2 (hBr.trans (hB2.mono hBr.size)))
        clear c0 c1 c2 c3 c4 c5 c6 c7 c8 c9
        go_wp2_with fail
        exact hx.out
      · rw [decide_eq_false he] at hsk
        clear hkq hfk
        replace he := Lib.hid he
        generalize strOf (bytesL (wordsL l k)) = s1 at *
        generalize strOf (bytesL tg) = s2 at *
        go_wp2_with fail
        refine hlk.out.mono ?_
        rintro e w2 ⟨rfl, hB2⟩
        have hB3 := Lib.hid (hBr.trans (hB2.mono hBr.size))
        clear c0 c1 c2 c3 c4 c5 c6 c7 c8 c9 hB2 hBr
        go_wp2_with fail
        refine ⟨⟨k + 1, by omega, rfl, hB3.out, fun j hj => ?_⟩, by simp [intOf]; omega⟩
        by_cases e : j = k
        · rw [e]; exact he.out
        · exact hno.out j (by omega)
    · obtain rfl : k = l.hist.length + 1 := by omega
      have hkI : decide (((l.hist.length : Int) + 1) ≤ (l.hist.length : Int)) = false := decide_eq_false (by omega)
      have hkN : decide (l.hist.length + 1 ≤ l.hist.length) = false := decide_eq_false (by omega)
      have hx := Lib.hid (hfin2.out wr hBr (least_none (fun j hj => hno j (by omega))))
      clear hno hRow
      go_wp2_with fail
      exact hx.out
end Go.Proofs.Ytikjpklbbjmioaa
