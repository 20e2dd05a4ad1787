/- Count. -/
import Derived.Test.YtdminbjenbbpaaaG4
import Derived.Deep.Cut
namespace Go.Proofs.Ytdminbjenbbpaaa
open Go.RowKit

def CountPost (w : World) (l : List Int) (e : Ending) (w' : World) : Prop :=
  e = .returned (.tuple #[.int .u64 ((countV l).1 : Int), .bool (countV l).2]) ∧ ∃ m, w.drewN m = w'
theorem choose_case (w : World) (n k : Nat) (hk : k ≤ n) (hn : n < 4294967296) : ∃ (b : Nat) (ok : Bool), Calls Try.prog 37 #[.int .u64 (n : Int), .int .u64 (k : Int)] w (fun e w' => e = .returned (.tuple #[.int .u64 (b : Int), .bool ok]) ∧ ∃ m, w.drewN m = w') ∧
    ((ok = true ∧ b = bin n k ∧ bin n k ≤ most) ∨ (ok = false ∧ b = 0 ∧ most < bin n k)) := by
  refine ⟨(chooseV n k).1, (chooseV n k).2, choose_any n k hk hn w, ?_⟩
  unfold chooseV
  by_cases h : bin n k ≤ most
  · rw [if_pos h]; exact .inl ⟨rfl, rfl, h⟩
  · rw [if_neg h]; exact .inr ⟨rfl, rfl, by omega⟩
set_option maxHeartbeats 4000000 in
set_option maxRecDepth 100000 in
theorem count_any (l : List Int) (v : Value) (w : World) (hv : Rd w v l.length (l.map (Value.int .i64))) (hl : l.length ≤ 64) (hs : ∀ s ∈ l, -9223372036854775808 ≤ s ∧ s ≤ 1000000) :
    Calls Try.prog 17 #[v] w (CountPost w l) := by
  generalize hpost : CountPost w l = post
  have hover : ∀ k d, most < ((l.take k).foldl cntS (0, 1)).2 → post (.returned (.tuple #[.int .u64 4611686018427387904, .bool false])) (w.drewN d) := fun k d h => by
    rw [← hpost]; refine ⟨?_, d, rfl⟩
    rw [cnt_over l k h]; rfl
  have hend : ∀ d, ((l.take l.length).foldl cntS (0, 1)).2 ≤ most → post (.returned (.tuple #[.int .u64 ((((l.take l.length).foldl cntS (0, 1)).2 : Nat) : Int), .bool true])) (w.drewN d) := fun d h => by
    rw [← hpost]; refine ⟨?_, d, rfl⟩
    rw [List.take_length] at *
    have : countV l = (cntP l, true) := by unfold countV cntP; rw [if_pos h]
    rw [this]; rfl
  have htot : ∀ k, ((l.take k).foldl cntS (0, 1)).1 ≤ 64000000 := fun k => by
    have h1 := cnt_total 1000000 (l.take k) (0, 1) (fun s hm => (hs s (List.mem_of_mem_take hm)).2)
    have h2 : (l.take k).length ≤ 64 := by rw [List.length_take]; omega
    have h3 := Nat.mul_le_mul_right 1000000 h2
    omega
  have hpos : ∀ k, 1 ≤ ((l.take k).foldl cntS (0, 1)).2 := fun k => (fold_pos (l.take k) (0, 1) (Nat.le_refl _)).2
  obtain ⟨va, vc, rfl, hrd⟩ := hv
  have hv : Rd w (.slice va l.length vc) l.length (l.map (Value.int .i64)) := ⟨va, vc, rfl, hrd⟩
  replace hover := Lib.hid hover
  replace hend := Lib.hid hend
  replace htot := Lib.hid htot
  replace hpos := Lib.hid hpos
  replace hs := Lib.hid hs
  replace hv := Lib.hid hv
  replace hl := Lib.hid hl
  clear hpost hrd
  go_enter Try.func17, Try.ntmps17
  go_wp2_with fail
  go_loopw [15, 4, 5] (fun i tv cv wr => ∃ k d : Nat, k ≤ l.length ∧ i = .int .i64 k ∧ tv = .int .u64 ((((l.take k).foldl cntS (0, 1)).1 : Nat) : Int) ∧ cv = .int .u64 ((((l.take k).foldl cntS (0, 1)).2 : Nat) : Int) ∧ ((l.take k).foldl cntS (0, 1)).2 ≤ most ∧ wr = w.drewN d) (fun i _ _ _ => l.length - (intOf i).toNat)
  case atStart => exact ⟨0, 0, Nat.zero_le _, rfl, rfl, rfl, by rw [List.take_zero]; decide, rfl⟩
  case round =>
    obtain ⟨k, d, hk, rfl, rfl, rfl, hle, rfl⟩ := hrel
    by_cases hlt : k < l.length
    · have hkI : (k : Int) < (l.length : Int) := by omega
      have hk0 : (0 : Int) ≤ (k : Int) := by omega
      have hll := hl.out
      have hwm := Lib.hid (show wrap64 ((k : Int) + 1) = (k : Int) + 1 by unfold wrap64; omega)
      obtain ⟨bl, ol, cl, ea, fa⟩ := hv.out.cells (by omega)
      simp only [Value.slice.injEq, true_and] at ea
      obtain ⟨rfl, ea2⟩ := ea
      replace ea2 := Lib.hid ea2
      have ck : w.cell? ⟨bl, ol + k, none⟩ = _ := fa _ _ (ints_get l .i64 k hlt)
      have hsk := hs.out (l.getD k 0) (by rw [List.getD_eq_getElem?_getD, List.getElem?_eq_getElem hlt]; exact List.getElem_mem hlt)
      have htk := cnt_take l k hlt
      have ht1 := htot.out k
      have ht2 := htot.out (k + 1)
      have hp1 := hpos.out k
      have hov := fun d => hover.out (k + 1) d
      have hnext : ∀ (i : Int) t c d, i = (k : Int) + 1 → ((l.take (k + 1)).foldl cntS (0, 1)) = (t, c) → c ≤ most → (∃ k d' : Nat, k ≤ l.length ∧ Value.int .i64 i = .int .i64 k ∧ Value.int .u64 ((t : Nat) : Int) = .int .u64 ((((l.take k).foldl cntS (0, 1)).1 : Nat) : Int) ∧ Value.int .u64 ((c : Nat) : Int) = .int .u64 ((((l.take k).foldl cntS (0, 1)).2 : Nat) : Int) ∧ ((l.take k).foldl cntS (0, 1)).2 ≤ most ∧ w.drewN d = w.drewN d') :=
        fun i t c d hi he hc => ⟨k + 1, d, by omega, by rw [hi]; rfl, by rw [he], by rw [he], by rw [he]; exact hc, rfl⟩
      rw [htk] at ht2 hov
      simp only [htk] at hnext
      generalize (l.take k).foldl cntS (0, 1) = st at *
      obtain ⟨t, c⟩ := st
      generalize l.getD k 0 = s at *
      simp only at ht1 hp1 hle ⊢
      have hmost : most = 4611686018427387904 := rfl
      by_cases hs0 : s ≤ 0
      · have hd1 : decide (s ≤ 0) = true := decide_eq_true hs0
        have hc : cntS (t, c) s = (t, c) := by unfold cntS; rw [if_pos hs0]
        have hn2 := hnext ((k : Int) + 1) t c d rfl hc hle
        replace hn2 := Lib.hid hn2
        clear hnext hov htk ht2 ht1 hp1 hle hmost hc hsk fa hs0 hll
        replace hlt := Lib.hid hlt
        go_wp2_with fail
        have := hlt.out
        try rw [hwm.out]
        exact ⟨hn2.out, by simp [intOf]; omega⟩
      · have hd1 : decide (s ≤ 0) = false := decide_eq_false hs0
        obtain ⟨n, rfl⟩ := Int.eq_ofNat_of_zero_le (show 0 ≤ s by omega)
        have hcv : IntKind.u64.wrap (n : Int) = (n : Int) := u64w n (by omega)
        have hadd : IntKind.u64.wrap ((t : Int) + (n : Int)) = ((t + n : Nat) : Int) := by rw [show (t : Int) + (n : Int) = ((t + n : Nat) : Int) by omega]; exact u64w _ (by omega)
        have hn0 : n ≠ 0 := by omega
        have hn0d : decide (n = 0) = false := decide_eq_false hn0
        have hnb : n ≤ 1000000 := by omega
        by_cases ht0 : t = 0
        · have hz : ((t : Int) == 0) = true := by rw [beq_iff_eq]; omega
          have hc : cntS (t, c) (n : Int) = (t + n, c) := by unfold cntS; rw [if_neg hs0]; simp [ht0]
          have hn2 := hnext ((k : Int) + 1) _ c d rfl hc hle
          replace hn2 := Lib.hid hn2
          clear hnext hov htk ht2 ht1 hp1 hle hmost hc hsk fa hll hnb ht0
          replace hlt := Lib.hid hlt
          replace hs0 := Lib.hid hs0
          go_wp2_with fail
          have := hlt.out
          try rw [hwm.out]
          exact ⟨hn2.out, by simp [intOf]; omega⟩
        · have hz : ((t : Int) == 0) = false := by rw [beq_eq_false_iff_ne]; omega
          have hg : decide ((4611686018427387904 : Int) < ((t + n : Nat) : Int)) = false := decide_eq_false (by omega)
          have hc : cntS (t, c) (n : Int) = (t + n, c * bin (t + n) (min t n)) := by
            unfold cntS; rw [if_neg hs0]; simp only [if_neg ht0, Int.toNat_natCast]
          rw [hc] at hov
          obtain ⟨q, hq⟩ : ∃ q, q = min t n := ⟨_, rfl⟩
          obtain ⟨u, hu⟩ : ∃ u, u = t + n := ⟨_, rfl⟩
          rw [← hq, ← hu] at hov hc
          rw [← hu] at hadd hg
          have hqu : q ≤ u := by omega
          have hub : u < 4294967296 := by omega
          have hch := fun wx => choose_case wx u q hqu hub
          have hbp := bin_pos u q hqu
          have hnx := fun d' => hnext ((k : Int) + 1) u (c * bin u q) d' rfl hc
          have hmI : (if (n : Int) < (t : Int) then (n : Int) else (t : Int)) = (q : Int) := by
            by_cases h : (n : Int) < (t : Int)
            · rw [if_pos h]; omega
            · rw [if_neg h]; omega
          have hmN : (if n < t then (n : Int) else (t : Int)) = (q : Int) := by
            by_cases h : n < t
            · rw [if_pos h]; omega
            · rw [if_neg h]; omega
          have hmn : min (t : Int) (n : Int) = (q : Int) := by omega
          obtain ⟨b', ok, hcall, hcase⟩ := hch (w.drewN d)
          generalize bin u q = b at *
          have hcb : c < 18446744073709551616 := by omega
          have hmulC : ∀ wx, b' < 18446744073709551616 → Calls Try.prog 38 #[.int .u64 (c : Int), .int .u64 (b' : Int)] wx fun e w' => e = .returned (.tuple #[.int .u64 ((c * b' / 18446744073709551616 : Nat) : Int), .int .u64 ((c * b' % 18446744073709551616 : Nat) : Int)]) ∧ wx = w' := fun wx hb =>
            (Try.bits_Mul64 c b' hcb hb wx).mono fun e w' ⟨a, b⟩ => ⟨a, b.symm⟩
          have hple : b ≤ c * b := by have := Nat.mul_le_mul_right b hp1; omega
          have hres : (ok = true ∧ b' < 18446744073709551616 ∧ ∃ P, P = c * b' ∧ ((P ≤ most ∧ P / 18446744073709551616 = 0 ∧ P % 18446744073709551616 = P ∧ P = c * b) ∨ (most < c * b ∧ (P / 18446744073709551616 ≠ 0 ∨ (P / 18446744073709551616 = 0 ∧ most < P % 18446744073709551616))))) ∨ (ok = false ∧ b' = 0 ∧ most < c * b) := by
            rcases hcase with ⟨h1, h2, h3⟩ | ⟨h1, h2, h3⟩
            · subst h2
              refine .inl ⟨h1, by omega, c * b', rfl, ?_⟩
              generalize c * b' = P at *
              by_cases hp : P ≤ most
              · exact .inl ⟨hp, by omega, by omega, rfl⟩
              · refine .inr ⟨by omega, ?_⟩
                by_cases hd : P / 18446744073709551616 = 0
                · exact .inr ⟨hd, by omega⟩
                · exact .inl hd
            · exact .inr ⟨h1, h2, by omega⟩
          replace hcall := Lib.hid hcall
          replace hmulC := Lib.hid hmulC
          replace hnx := Lib.hid hnx
          replace hov := Lib.hid hov
          replace hlt := Lib.hid hlt
          replace hu := Lib.hid hu
          replace hs0 := Lib.hid hs0
          replace ht0 := Lib.hid ht0
          clear hnext htk ht2 ht1 hp1 hle hc hsk fa hll hnb hch hbp hcase hple hcb hub hqu
          replace hq := Lib.hid hq
          rcases hres with ⟨rfl, hb64, P, hP, hcs⟩ | ⟨rfl, rfl, hbig⟩
          · have hmul := fun wx => hmulC.out wx hb64
            rw [← hP] at hmul
            rcases hcs with ⟨g1, g2, g3, g4⟩ | ⟨g1, g2⟩
            · rw [g2, g3] at hmul
              have hd5 : decide ((4611686018427387904 : Int) < (P : Int)) = false := decide_eq_false (by omega)
              have hn2 := fun d' => hnx.out d' (by rw [← g4]; exact g1)
              rw [← g4] at hn2
              replace hmul := Lib.hid hmul
              replace hn2 := Lib.hid hn2
              replace hP := Lib.hid hP
              replace g4 := Lib.hid g4
              clear g1 g2 g3 hov hnx hmulC hmost hb64
              go_wp2_with fail
              refine hcall.out.mono ?_
              rintro e w' ⟨rfl, d2, rfl⟩
              go_wp2_with fail
              refine (hmul.out _).mono ?_
              rintro e w' ⟨rfl, rfl⟩
              go_wp2_with fail
              have := hlt.out
              try rw [hwm.out]
              try rw [World.drewN_drewN]
              exact ⟨hn2.out _, by simp [intOf]; omega⟩
            · have hf := fun d' => hov.out d' g1
              generalize P / 18446744073709551616 = hi at *
              generalize P % 18446744073709551616 = lo at *
              replace hmul := Lib.hid hmul
              replace hf := Lib.hid hf
              replace hP := Lib.hid hP
              rcases g2 with g2 | ⟨g2, g3⟩
              · have hd4 : ((hi : Int) != 0) = true := by rw [bne_iff_ne]; omega
                have hd4' : ((hi : Int) == 0) = false := by rw [beq_eq_false_iff_ne]; omega
                replace g2 := Lib.hid g2
                clear g1 hov hnx hmulC hmost hb64
                go_wp2_with fail
                refine hcall.out.mono ?_
                rintro e w' ⟨rfl, d2, rfl⟩
                go_wp2_with fail
                refine (hmul.out _).mono ?_
                rintro e w' ⟨rfl, rfl⟩
                go_wp2_with fail
                try rw [World.drewN_drewN]
                first | exact hf.out _ | (go_ret2; exact hf.out _)
              · subst g2
                have hd5 : decide ((4611686018427387904 : Int) < (lo : Int)) = true := decide_eq_true (by omega)
                replace g3 := Lib.hid g3
                clear g1 hov hnx hmulC hmost hb64
                go_wp2_with fail
                refine hcall.out.mono ?_
                rintro e w' ⟨rfl, d2, rfl⟩
                go_wp2_with fail
                refine (hmul.out _).mono ?_
                rintro e w' ⟨rfl, rfl⟩
                go_wp2_with fail
                try rw [World.drewN_drewN]
                first | exact hf.out _ | (go_ret2; exact hf.out _)
          · have hf := fun d' => hov.out d' hbig
            have hmul := fun wx => hmulC.out wx (by omega)
            rw [Nat.mul_zero, Nat.zero_div, Nat.zero_mod] at hmul
            replace hmul := Lib.hid hmul
            replace hf := Lib.hid hf
            clear hbig hov hnx hmulC hmost
            go_wp2_with fail
            refine hcall.out.mono ?_
            rintro e w' ⟨rfl, d2, rfl⟩
            go_wp2_with fail
            refine (hmul.out _).mono ?_
            rintro e w' ⟨rfl, rfl⟩
            go_wp2_with fail
            try rw [World.drewN_drewN]
            first | exact hf.out _ | (go_ret2; exact hf.out _)
    · obtain rfl : k = l.length := by omega
      have hf := Lib.hid (hend.out d hle)
      generalize ((l.take l.length).foldl cntS (0, 1)).2 = c at *
      generalize ((l.take l.length).foldl cntS (0, 1)).1 = t at *
      replace hle := Lib.hid hle
      go_wp2_with fail
      first | exact hf.out | (go_ret2; exact hf.out)
end Go.Proofs.Ytdminbjenbbpaaa
