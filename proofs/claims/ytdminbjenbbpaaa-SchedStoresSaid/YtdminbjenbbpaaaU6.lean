/- SchedStores: the law's walk, short arguments. -/
import Derived.Test.YtdminbjenbbpaaaU8
import Derived.Deep.RegionWith
import Derived.Deep.DeepCutAuto
namespace Go.Proofs.Ytdminbjenbbpaaa
open Go.RowKit

theorem two_cells {w : World} {b : Nat} {v0 v1 : Value} {T : TypeId} (h : Has w b [v0, v1] T) : w.cell? ⟨b, 0, none⟩ = some v0 ∧ w.cell? ⟨b, 1, none⟩ = some v1 ∧ w.frozen? ⟨b, 0, none⟩ = false ∧ w.frozen? ⟨b, 1, none⟩ = false :=
  ⟨h.cell (o := 0) rfl, h.cell (o := 1) rfl, h.free 0, h.free 1⟩

theorem only_two (w : World) (z : Nat) (a b : Value) : Only (fun k => k = z) w ((w.setCell ⟨z, 0, none⟩ a).setCell ⟨z, 1, none⟩ b) :=
  ((Only.refl (fun k => k = z) w).setCell (a := ⟨z, 0, none⟩) (fun _ => rfl) a).setCell (a := ⟨z, 1, none⟩) (fun _ => rfl) b

set_option maxRecDepth 100000 in
set_option maxHeartbeats 2000000 in
theorem stores_short (a0 : Option Addr) (cap0 : Nat) (la : List Nat) (a1 : Option Addr) (cap1 : Nat) (lb : List Nat) (a2 : Option Addr) (cap2 : Nat) (ps : List Int) (w : World)
    (hla : Rd w (.slice a0 la.length cap0) la.length (u64s la)) (hlb : Rd w (.slice a1 lb.length cap1) lb.length (u64s lb)) (hps : Rd w (.slice a2 ps.length cap2) ps.length (ps.map (.int .i64)))
    (hva : ∀ x ∈ la, x < 18446744073709551616) (hvb : ∀ x ∈ lb, x < 18446744073709551616) (hvp : ∀ p ∈ ps, -9223372036854775808 ≤ p ∧ p ≤ 9223372036854775807) (h30 : la.length ≤ 30) (h31 : lb.length ≤ 30) (h100 : ps.length ≤ 100) :
    Calls Try.prog 8 #[.slice a0 la.length cap0, .slice a1 lb.length cap1, .slice a2 ps.length cap2] w fun e w' => e = .returned (.bool true) ∧ Below w.heap.size w w' := by
  have h0 : ¬ (30 : Int) < la.length := by omega
  have h1 : ¬ (30 : Int) < lb.length := by omega
  have h2 : ¬ (100 : Int) < ps.length := by omega
  go_enter Try.func8, Try.ntmps8
  go_wp2_with fail
  refine (awake_any w).mono ?_
  rintro e w1 ⟨rfl, hB1⟩
  have hnew := new_any w1 (fun _ => none) 0 2 (by decide) (by decide)
  rw [show ((2 : Nat) : Int) = 2 from rfl] at hnew
  replace hnew := Lib.hid hnew
  go_wp2_with (go_at_call 25; refine hnew.out.mono ?_)
  rintro e w2 ⟨L, F, rfl, hD, hE, hB2⟩
  have ht0 := thread_in hD (t := 0) (by decide)
  have ht1 := thread_in hD (t := 1) (by decide)
  rw [show ((0 : Nat) : Int) = 0 from rfl] at ht0
  rw [show ((1 : Nat) : Int) = 1 from rfl] at ht1
  replace ht0 := Lib.hid ht0
  replace ht1 := Lib.hid ht1
  clear hnew
  go_wp2_with (go_at_call 26; refine ht0.out.mono ?_)
  rintro e w3 ⟨rfl, rfl⟩
  go_wp2_with (go_at_call 26; refine ht1.out.mono ?_)
  rintro e w3 ⟨rfl, rfl⟩
  go_wp2_with (go_at_call 26; refine ht0.out.mono ?_)
  rintro e w3 ⟨rfl, rfl⟩
  have hD3 := hD.alloc (.cells #[.pointer (some ⟨L.tb 0, 0, none⟩), .int .u64 64, .slice a0 la.length cap0, .int .i64 0] 60)
  have ht3 := thread_in hD3 (t := 1) (by decide)
  rw [show ((1 : Nat) : Int) = 1 from rfl] at ht3
  replace ht3 := Lib.hid ht3
  go_wp2_with (go_at_call 26; refine ht3.out.mono ?_)
  rintro e w3 ⟨rfl, rfl⟩
  have hrun := fun wx => runs_at w w2 wx F L a0 cap0 la a1 cap1 lb a2 cap2 ps hla hlb hps hva hvb hvp h30 h31 h100 hD (fun k hk => hE k (by have := hB1.size; omega)) (hB1.trans (hB2.mono hB1.size))
  obtain ⟨g0, g1, g2⟩ := wrW_has w2 L (.slice a0 la.length cap0) (.slice a1 lb.length cap1)
  have hz4 := wrW_size w2 L (.slice a0 la.length cap0) (.slice a1 lb.length cap1)
  have hbw := hB1.trans ((hB2.trans ((wrW_below w2 L (.slice a0 la.length cap0) (.slice a1 lb.length cap1)).mono hB2.size)).mono hB1.size)
  go_wp2_with fail
  have hww : (((w2.alloc (.cells #[.pointer (some ⟨L.tb 0, 0, none⟩), .int .u64 64, .slice a0 la.length cap0, .int .i64 0] 60)).alloc (.cells #[.pointer (some ⟨L.tb 1, 0, none⟩), .int .u64 64, .slice a1 lb.length cap1, .int .i64 0] 60)).alloc
    (.cells #[.pointer (some ⟨w2.heap.size, 0, none⟩), .pointer (some ⟨w2.heap.size + 1, 0, none⟩)] 58)) = wrW w2 L (.slice a0 la.length cap0) (.slice a1 lb.length cap1) := rfl
  rw [hww]
  clear hww
  generalize wrW w2 L (.slice a0 la.length cap0) (.slice a1 lb.length cap1) = w4 at *
  have c0 := g2.cell (o := 0) rfl
  have c1 := g2.cell (o := 1) rfl
  replace hrun := Lib.hid hrun
  clear ht0 ht1 ht3 hD3
  go_cut [10] (fun zv wr => Mid w w2.heap.size L (pick (.slice a0 la.length cap0) (.slice a1 lb.length cap1)) (pick la lb) ps.length zv wr)
  case first =>
    have hEw : ∀ k, k < w.heap.size → F.trim w2 k = none := fun k hk => by
      have h5 := hB1.size; have h6 := hB2.size
      rw [F.trim_ext w2 k (by omega)]; exact hE k (by omega)
    have hEn : ∀ k, w2.heap.size ≤ k → F.trim w2 k = none := fun k hk => F.trim_new w2 hk
    have hn : w.heap.size ≤ w2.heap.size := Nat.le_trans hB1.size hB2.size
    have b0 := Below.refl (w2.heap.size + 3) w4
    have bA : Below (w2.heap.size + 3) w4 (w4.alloc (.cells #[wval w2.heap.size, wval (w2.heap.size + 1)] 86)).drew := blw_drew (b0.alloc (by omega) _)
    have bB : Below (w2.heap.size + 3) w4 ((w4.alloc (.cells #[.slice none 0 0, .slice none 0 0] 27)).alloc (.cells #[wval w2.heap.size, wval (w2.heap.size + 1)] 86)).drew := blw_drew ((b0.alloc (by omega) _).alloc (by simp; omega) _)
    have bC : Below (w2.heap.size + 3) w4 ((w4.alloc (.cells #[wval w2.heap.size, wval (w2.heap.size + 1)] 86)).alloc (.cells #[.slice none 0 0, .slice none 0 0] 27)).drew := blw_drew ((b0.alloc (by omega) _).alloc (by simp; omega) _)
    have mA := Has.new w4 [wval w2.heap.size, wval (w2.heap.size + 1)] 86
    have mB := Has.new (w4.alloc (.cells #[.slice none 0 0, .slice none 0 0] 27)) [wval w2.heap.size, wval (w2.heap.size + 1)] 86
    have mC := mA.alloc (.cells #[.slice none 0 0, .slice none 0 0] 27)
    have zB := (Has.new w4 [.slice none 0 0, .slice none 0 0] 27).alloc (.cells #[wval w2.heap.size, wval (w2.heap.size + 1)] 86)
    have zC := Has.new (w4.alloc (.cells #[wval w2.heap.size, wval (w2.heap.size + 1)] 86)) [.slice none 0 0, .slice none 0 0] 27
    rw [World.size_alloc] at mB zC
    rw [hz4] at mA mB mC zB zC
    replace mA := mA.drew
    replace mB := mB.drew
    replace mC := mC.drew
    unfold wval at *
    replace bA := Lib.hid bA
    replace bB := Lib.hid bB
    replace bC := Lib.hid bC
    replace mA := Lib.hid mA
    replace mB := Lib.hid mB
    replace mC := Lib.hid mC
    have zB' := zB.drew
    have zC' := zC.drew
    have hnB : ¬ (Mine (F.trim w2) 0 (w2.heap.size + 3) ∨ w2.heap.size + 3 ∈ [w2.heap.size, w2.heap.size + 1]) := by
      rintro (⟨r, s⟩ | s)
      · rw [hEn _ (by omega)] at s; cases s
      · simp only [List.mem_cons, List.not_mem_nil, or_false] at s; omega
    have hnC : ¬ (Mine (F.trim w2) 0 (w2.heap.size + 3 + 1) ∨ w2.heap.size + 3 + 1 ∈ [w2.heap.size, w2.heap.size + 1]) := by
      rintro (⟨r, s⟩ | s)
      · rw [hEn _ (by omega)] at s; cases s
      · simp only [List.mem_cons, List.not_mem_nil, or_false] at s; omega
    replace zB := Lib.hid zB'
    replace zC := Lib.hid zC'
    clear zB' zC'
    go_region_with (first
      | (go_at_call 13; (with_reducible refine (hrun.out _ bA.out _ (by omega) mA.out).mono ?_); rintro e w5 ⟨F5, st, sa, sc, ea, rfl, r1, r2, r3, r4, r5, r6, r7, r8⟩)
      | (go_at_call 13; (with_reducible refine (hrun.out _ bB.out _ (by omega) mB.out).mono ?_); rintro e w5 ⟨F5, st, sa, sc, ea, rfl, r1, r2, r3, r4, r5, r6, r7, r8⟩; obtain ⟨k0, k1, k2, k3⟩ := two_cells (zB.out.only r8 hnB))
      | (go_at_call 13; (with_reducible refine (hrun.out _ bC.out _ (by omega) mC.out).mono ?_); rintro e w5 ⟨F5, st, sa, sc, ea, rfl, r1, r2, r3, r4, r5, r6, r7, r8⟩; obtain ⟨k0, k1, k2, k3⟩ := two_cells (zC.out.only r8 hnC)))
    all_goals
      go_wp2_with fail
      go_meet
      first
        | exact mid_of bA.out hz4 g2 hbw hn hEw hEn r1 r2 r3 r4 r5 r6 r7 r8 (.inr rfl) ((Only.refl _ _).alloc _) (Has.new _ _ _)
        | exact mid_of bB.out hz4 g2 hbw hn hEw hEn r1 r2 r3 r4 r5 r6 r7 r8 (.inl ⟨Nat.le_refl _, zB.out.lt⟩) (only_two _ _ _ _) (((zB.out.only r8 hnB).set 0 _).set 1 _)
        | exact mid_of bC.out hz4 g2 hbw hn hEw hEn r1 r2 r3 r4 r5 r6 r7 r8 (.inl ⟨by omega, zC.out.lt⟩) (only_two _ _ _ _) (((zC.out.only r8 hnC).set 0 _).set 1 _)
  case rest =>
    rename World => wc
    obtain ⟨z, F', st, sa, sc, ea, rfl, hz, hrd, hown, hst2, hstl, ⟨R, hDR, hOk⟩, hw0, hw1, hw2, hBw, hFz, hFn, hzlt, hFw, hz3, hnw⟩ := hcut
    clear hrun hD hE g0 g1 g2 c0 c1
    have hA := Has.new wc [.int .i64 0, .int .i64 0] 3
    have hbd : Below wc.heap.size wc (wc.alloc (.cells [.int .i64 0, .int .i64 0].toArray 3)) := (Below.refl _ _).alloc (Nat.le_refl _) _
    have hDt := hDR.trim
    have hOd := Only.of_below hbd
    have hsd : (wc.alloc (.cells [.int .i64 0, .int .i64 0].toArray 3)).heap.size = wc.heap.size + 1 := World.size_alloc _ _
    have hFA : F'.trim wc wc.heap.size = none := F'.trim_new wc (Nat.le_refl _)
    have hFt : ∀ k, k < wc.heap.size → F'.trim wc k = F' k := fun k hk => F'.trim_ext wc k hk
    have hsw := hBw.size
    have hzd := hz.only hOd (Nat.not_le.2 hzlt)
    have hrdd := hrd.only hOd (fun k hk => Nat.not_le.2 (hown k hk))
    have hw0d := hw0.only hOd (Nat.not_le.2 hw0.lt)
    have hw1d := hw1.only hOd (Nat.not_le.2 hw1.lt)
    have hw2d := hw2.only hOd (Nat.not_le.2 hw2.lt)
    have hDd := hDt.kept hOd (Ext.refl _ _) (fun k r e s => by rw [F'.trim_new wc e] at s; cases s)
    have hBd := hBw.trans (hbd.mono hsw)
    have hlt0 := hw0.lt
    have hlt1 := hw1.lt
    have hlt2 := hw2.lt
    have hFn0 : F'.trim wc w2.heap.size = none := by rw [hFt _ hlt0]; exact hFn _ (by omega) (by omega)
    have hFn1 : F'.trim wc (w2.heap.size + 1) = none := by rw [hFt _ hlt1]; exact hFn _ (by omega) (by omega)
    have hFn2 : F'.trim wc (w2.heap.size + 2) = none := by rw [hFt _ hlt2]; exact hFn _ (by omega) (by omega)
    have hFwd : ∀ k, k < w.heap.size → F'.trim wc k = none := fun k hk => by rw [hFt _ (by omega)]; exact hFw k hk
    obtain ⟨wd, hwd⟩ : ∃ wd, wd = wc.alloc (.cells [.int .i64 0, .int .i64 0].toArray 3) := ⟨_, rfl⟩
    rw [← hwd] at hA hzd hrdd hw0d hw1d hw2d hDd hBd hsd
    clear hz hrd hw0 hw1 hw2 hDR hDt hbd hBw hOd hFt hFw hFn hFz
    have z0 := hzd.cell (o := 0) rfl
    generalize F'.trim wc = G at *
    generalize hAA : wc.heap.size = A at *
    replace hAA := Lib.hid hAA
    replace hwd := Lib.hid hwd
    replace hsd := Lib.hid hsd
    go_upto_region 11 with fail
    rw [hAA.out, show (#[Value.int IntKind.i64 0, Value.int IntKind.i64 0] : Array Value) = [Value.int IntKind.i64 0, Value.int IntKind.i64 0].toArray from rfl, ← hwd.out]
    rw [show w2.heap.size + 2 = w2.heap.size + 1 + 1 from rfl] at hw2d hlt2 hFn2
    have hwB : w.heap.size ≤ w2.heap.size := hnw
    clear hB1 hB2 hbw hz4 hz3 hnw
    generalize w2.heap.size + 1 + 1 = b2 at *
    generalize w2.heap.size + 1 = b1 at *
    generalize w2.heap.size = b0 at *
    have hpk : ∀ (k m : Nat), st[k]? = some m → accAll (pick la lb) (st.take (k + 1)) = accStep (pick la lb) (accAll (pick la lb) (st.take k)) m := fun k m h => acc_step _ _ _ _ h
    have hle := fun k => accAll_le (pick la lb) (st.take k)
    have hmem : ∀ k, k < st.length → st[k]? = some (st.getD k 0) ∧ st.getD k 0 < 2 := fun k hk => by
      have e : st[k]? = some (st.getD k 0) := by rw [List.getD, List.getElem?_eq_getElem hk]; rfl
      exact ⟨e, hst2 _ (List.mem_of_getElem? e)⟩
    have hgI : ∀ k, k < st.length → ((natsI st).map (Value.int .i64))[k]? = some (.int .i64 ((st.getD k 0 : Nat) : Int)) := fun k hk => by
      rw [List.getElem?_map]; unfold natsI; rw [List.getElem?_map, (hmem k hk).1]; rfl
    have hend : accAll (pick la lb) (st.take st.length) = accAll (pick la lb) st := by rw [List.take_length]
    have hbg : accAll (pick la lb) (st.take 0) = acc0 := rfl
    generalize hacc : (fun k => accAll (pick la lb) (st.take k)) = acc at *
    have hacc' : ∀ k, accAll (pick la lb) (st.take k) = acc k := fun k => by rw [← hacc]
    simp only [hacc'] at hpk hle hend hbg
    generalize hfa : accAll (pick la lb) st = fin at *
    replace hpk := Lib.hid hpk
    replace hle := Lib.hid hle
    replace hmem := Lib.hid hmem
    replace hgI := Lib.hid hgI
    replace hend := Lib.hid hend
    replace hbg := Lib.hid hbg
    clear hacc hacc' hfa
    have hAlt := hA.lt
    go_wp2_with fail
    go_loopw [12, 13, 80] (fun wv nv i wr => ∃ k want n x0 x1 : Nat, k ≤ st.length ∧ i = .int .i64 (k : Int) ∧ wv = .int .u64 (want : Int) ∧ nv = .int .i64 (n : Int) ∧ n ≤ k ∧ (acc k).want = want ∧ (acc k).n = n ∧ (acc k).nx 0 = x0 ∧ (acc k).nx 1 = x1 ∧
      Has wr A [.int .i64 (x0 : Int), .int .i64 (x1 : Int)] 3 ∧ Only (fun j => j = A) wd wr) (fun _ _ i _ => st.length - (intOf i).toNat)
    case atStart => exact ⟨0, 0, 0, 0, 0, Nat.zero_le _, rfl, rfl, rfl, Nat.zero_le _, by rw [hbg.out]; rfl, by rw [hbg.out]; rfl, by rw [hbg.out]; rfl, by rw [hbg.out]; rfl, hA, Only.refl _ _⟩
    case round =>
      obtain ⟨k, want, n, x0, x1, hk, rfl, rfl, rfl, hnk, e1, e2, e3, e4, hA', hO⟩ := hrel
      have hsz := hO.size
      by_cases hlt : k < st.length
      · obtain ⟨hm1, hm2⟩ := hmem.out k hlt
        have hst1 := hpk.out k _ hm1
        have hle0 := hle.out k 0
        have hle1 := hle.out k 1
        obtain ⟨a', c', ee, hcs⟩ := hrdd.only hO (fun j hj e => by have := hown j hj; omega)
        simp only [Value.slice.injEq, true_and] at ee
        obtain ⟨rfl, rfl⟩ := ee
        rcases hcs with ⟨h0', _⟩ | ⟨sb, so, rfl, hcs⟩
        · omega
        have hcm := hcs k _ (hgI.out k hlt)
        clear hcs hgI
        have hB' : Below w.heap.size w wr := hBd.trans (hO.below (B := w.heap.size) (by have := hBd.size; omega) (fun j _ e => by omega))
        rw [e3] at hle0
        rw [e4] at hle1
        have hkI : (k : Int) < (st.length : Int) := by omega
        generalize st.getD k 0 = m at *
        have hm01 : m = 0 ∨ m = 1 := by omega
        rcases hm01 with rfl | rfl
        · have cA := hA'.cell (o := 0) rfl
          have fA := hA'.free 0
          have cW := (hw2d.only hO (by omega)).cell (o := 0) rfl
          have cL : wr.cell? ⟨b0, 2, none⟩ = some (.slice a0 la.length cap0) := (hw0d.only hO (by omega)).cell (o := 2) rfl
          replace hle0 : x0 ≤ la.length := hle0
          obtain ⟨a', c', ee, hcl⟩ := hla.kept hB'
          simp only [Value.slice.injEq, true_and] at ee
          obtain ⟨rfl, rfl⟩ := ee
          by_cases hx : x0 < la.length
          · have hxI : decide ((x0 : Int) < (la.length : Int)) = true := decide_eq_true (by omega)
            have hxN : decide (x0 < la.length) = true := decide_eq_true hx
            rcases hcl with ⟨h0', _⟩ | ⟨lb', lo', rfl, hcl⟩
            · omega
            have hcx := hcl x0 (.int .u64 ((la.getD x0 0 : Nat) : Int)) (u64s_get la x0 _ (by rw [List.getD, List.getElem?_eq_getElem hx]; rfl))
            have e5 : acc (k + 1) = ⟨fun j => if j = 0 then x0 + 1 else (acc k).nx j, la.getD x0 0, n + 1⟩ := by
              rw [hst1]; unfold accStep
              rw [show (acc k).nx 0 = x0 from e3]
              rw [if_pos (show x0 < (pick la lb 0).length from hx), e2]; rfl
            generalize la.getD x0 0 = y at *
            replace e5 := Lib.hid e5
            clear hcl hst1 hm1 hpk hle hend hbg
            go_wp2_with fail
            go_quiet (fail)
            go_wp2_with fail
            go_quiet (fail)
            go_wp2_with fail
            exact ⟨⟨k + 1, y, n + 1, x0 + 1, x1, by omega, rfl, rfl, rfl, by omega, by rw [e5.out], by rw [e5.out], by rw [e5.out]; rfl, by rw [e5.out]; exact e4, (hA'.drewN _).set 0 _, (hO.drewN _).setCell (a := ⟨A, 0, none⟩) (fun _ => rfl) _⟩, by simp [intOf]; omega⟩
          · have hxI : decide ((x0 : Int) < (la.length : Int)) = false := decide_eq_false (by omega)
            have hxN : decide (x0 < la.length) = false := decide_eq_false hx
            have e5 : acc (k + 1) = acc k := by
              rw [hst1]; unfold accStep
              rw [show (acc k).nx 0 = x0 from e3]
              rw [if_neg (show ¬ x0 < (pick la lb 0).length from hx)]
            replace e5 := Lib.hid e5
            clear hcl hst1 hm1 hpk hle hend hbg
            go_wp2_with fail
            go_quiet (fail)
            go_wp2_with fail
            exact ⟨⟨k + 1, want, n, x0, x1, by omega, rfl, rfl, rfl, by omega, by rw [e5.out]; exact e1, by rw [e5.out]; exact e2, by rw [e5.out]; exact e3, by rw [e5.out]; exact e4, hA'.drewN _, hO.drewN _⟩, by simp [intOf]; omega⟩
        · have cA := hA'.cell (o := 1) rfl
          have fA := hA'.free 1
          have cW := (hw2d.only hO (by omega)).cell (o := 1) rfl
          have cL : wr.cell? ⟨b1, 2, none⟩ = some (.slice a1 lb.length cap1) := (hw1d.only hO (by omega)).cell (o := 2) rfl
          replace hle0 : x1 ≤ lb.length := hle1
          obtain ⟨a', c', ee, hcl⟩ := hlb.kept hB'
          simp only [Value.slice.injEq, true_and] at ee
          obtain ⟨rfl, rfl⟩ := ee
          by_cases hx : x1 < lb.length
          · have hxI : decide ((x1 : Int) < (lb.length : Int)) = true := decide_eq_true (by omega)
            have hxN : decide (x1 < lb.length) = true := decide_eq_true hx
            rcases hcl with ⟨h0', _⟩ | ⟨lb', lo', rfl, hcl⟩
            · omega
            have hcx := hcl x1 (.int .u64 ((lb.getD x1 0 : Nat) : Int)) (u64s_get lb x1 _ (by rw [List.getD, List.getElem?_eq_getElem hx]; rfl))
            have e5 : acc (k + 1) = ⟨fun j => if j = 1 then x1 + 1 else (acc k).nx j, lb.getD x1 0, n + 1⟩ := by
              rw [hst1]; unfold accStep
              rw [show (acc k).nx 1 = x1 from e4]
              rw [if_pos (show x1 < (pick la lb 1).length from hx), e2]; rfl
            generalize lb.getD x1 0 = y at *
            replace e5 := Lib.hid e5
            clear hcl hst1 hm1 hpk hle hend hbg
            go_wp2_with fail
            go_quiet (fail)
            go_wp2_with fail
            go_quiet (fail)
            go_wp2_with fail
            exact ⟨⟨k + 1, y, n + 1, x0, x1 + 1, by omega, rfl, rfl, rfl, by omega, by rw [e5.out], by rw [e5.out], by rw [e5.out]; exact e3, by rw [e5.out]; rfl, (hA'.drewN _).set 1 _, (hO.drewN _).setCell (a := ⟨A, 1, none⟩) (fun _ => rfl) _⟩, by simp [intOf]; omega⟩
          · have hxI : decide ((x1 : Int) < (lb.length : Int)) = false := decide_eq_false (by omega)
            have hxN : decide (x1 < lb.length) = false := decide_eq_false hx
            have e5 : acc (k + 1) = acc k := by
              rw [hst1]; unfold accStep
              rw [show (acc k).nx 1 = x1 from e4]
              rw [if_neg (show ¬ x1 < (pick la lb 1).length from hx)]
            replace e5 := Lib.hid e5
            clear hcl hst1 hm1 hpk hle hend hbg
            go_wp2_with fail
            go_quiet (fail)
            go_wp2_with fail
            exact ⟨⟨k + 1, want, n, x0, x1, by omega, rfl, rfl, rfl, by omega, by rw [e5.out]; exact e1, by rw [e5.out]; exact e2, by rw [e5.out]; exact e3, by rw [e5.out]; exact e4, hA'.drewN _, hO.drewN _⟩, by simp [intOf]; omega⟩
      · obtain rfl : k = st.length := by omega
        rw [hend.out] at e1 e2 e3 e4
        have hkN : ¬ ((st.length : Int) < (st.length : Int)) := by omega
        have hA0 := hA'.cell (o := 0) rfl
        have hA1 := hA'.cell (o := 1) rfl
        have hB0 := (hw2d.only hO (by omega)).cell (o := 0) rfl
        have hB1' := (hw2d.only hO (by omega)).cell (o := 1) rfl
        have hN0 : wr.cell? ⟨b0, 3, none⟩ = some (.int .i64 (x0 : Int)) := by rw [← e3]; exact (hw0d.only hO (by omega)).cell (o := 3) rfl
        have hN1 : wr.cell? ⟨b1, 3, none⟩ = some (.int .i64 (x1 : Int)) := by rw [← e4]; exact (hw1d.only hO (by omega)).cell (o := 3) rfl
        have hDr : DevSt wr G 0 L (2 * st.length) R := hDd.kept hO (Ext.refl _ _) (fun j r e s => by rw [e, hFA] at s; cases s)
        have hOk' : DOk R want n := by rw [← e1, ← e2]; exact hOk
        have hB' : Below w.heap.size w wr := hBd.trans (hO.below (B := w.heap.size) (by have := hBd.size; omega) (fun j _ e => by omega))
        have hnM : ∀ b, G b = none → ¬ Mine G 0 b := fun b hb ⟨r, s⟩ => by rw [hb] at s; cases s
        have hat : ∀ wx, Only (Mine G 0) wr wx → (wx.cell? ⟨A, 0, none⟩ = some (.int .i64 (x0 : Int)) ∧ wx.cell? ⟨A, 1, none⟩ = some (.int .i64 (x1 : Int))) ∧ (wx.cell? ⟨b2, 0, none⟩ = some (.pointer (some ⟨b0, 0, none⟩)) ∧ wx.cell? ⟨b2, 1, none⟩ = some (.pointer (some ⟨b1, 0, none⟩))) ∧
            wx.cell? ⟨b0, 3, none⟩ = some (.int .i64 (x0 : Int)) ∧ wx.cell? ⟨b1, 3, none⟩ = some (.int .i64 (x1 : Int)) := fun wx h =>
          ⟨⟨h.cell hA0 (hnM _ hFA), h.cell hA1 (hnM _ hFA)⟩, ⟨h.cell hB0 (hnM _ hFn2), h.cell hB1' (hnM _ hFn2)⟩, h.cell hN0 (hnM _ hFn0), h.cell hN1 (hnM _ hFn1)⟩
        have hbf : ∀ wx, Only (Mine G 0) wr wx → Below w.heap.size w wx := fun wx h => hB'.trans (h.below (by have := hB'.size; omega) (fun k hk ⟨r, s⟩ => by
          rcases Nat.lt_or_ge k w.heap.size with h1 | h1
          · rw [hFwd k h1] at s; cases s
          · exact h1))
        replace hat := Lib.hid hat
        replace hbf := Lib.hid hbf
        replace hDr := Lib.hid hDr
        clear hA0 hA1 hB0 hB1' hN0 hN1 hDd hOk hB' hnM hBd hO hA' hrdd hw0d hw1d hw2d hzd hla hlb hps hva hvb hvp hpk hle hmem hgI hbg hend
        go_wp2_with fail
        refine wp_region_part [1, 2, 7] [[], [0], []] [] (LastC wr G L (2 * st.length) R want n) (by kernel_rfl) (by kernel_rfl) (by kernel_rfl) (LastC.start hDr.out) (LastC.ex hOk') (fun Hf hx => ?_)
        obtain ⟨w', hx⟩ := hx
        obtain ⟨v0e, v1e, ha, hc, v2e⟩ := hx.done
        refine part_chunk [] 1 0 _ _ (by kernel_rfl) (by kernel_rfl) (by decide) ?_
        simp only [List.take_succ_cons, List.take_zero, List.drop_succ_cons, List.drop_zero]
        iterate 1 (go_big_quiet_want; go_big_quiet_op; first | go_big_quiet_on | (refine ⟨_, fun _ _ => rfl, ?_⟩; go_big_quiet_on))
        refine wpQuiet_nil ?_
        refine part_step (s := 0) v0e (by go_simp; exact rfl) (by kernel_rfl) (by kernel_rfl) (fun H wx hs hn hp hc => ?_) ?_
        · exact callUpon_mk (f := 26) (args := #[.pointer (some ⟨L.g, 0, none⟩), .int .i64 0]) (by simp [go_sem]) hc.call0
        refine part_step (s := 1) v1e (by go_simp; exact rfl) (by kernel_rfl) (by kernel_rfl) (fun H wx hs hn hp hc => ?_) ?_
        · exact callUpon_mk (f := 27) (args := #[.pointer (some ⟨L.tb 0, 0, none⟩), .int .u64 64]) (by simp [go_sem]) (hc.call1 hOk')
        refine part_chunk [] 4 3 _ _ (by kernel_rfl) (by kernel_rfl) (by decide) ?_
        simp only [List.take_succ_cons, List.take_zero, List.drop_succ_cons, List.drop_zero]
        iterate 4 (go_big_quiet_want; go_big_quiet_op; first | go_big_quiet_on | (refine ⟨_, fun _ _ => rfl, ?_⟩; go_big_quiet_on))
        refine wpQuiet_nil ?_
        refine part_step (s := 2) v2e (by go_simp; exact rfl) (by kernel_rfl) (by kernel_rfl) (fun H wx hs hn hp hc => ?_) ?_
        · exact callUpon_mk (f := 28) (args := #[.pointer (some ⟨L.g, 0, none⟩), .int .i64 1]) (by simp [go_sem]) (hc.call2 hOk')
        refine part_chunk [] 29 8 _ _ (by kernel_rfl) (by kernel_rfl) (by decide) ?_
        simp only [List.take_succ_cons, List.take_zero, List.drop_succ_cons, List.drop_zero]
        iterate 7 (go_big_quiet_want; go_big_quiet_op; first | go_big_quiet_on | (refine ⟨_, fun _ _ => rfl, ?_⟩; go_big_quiet_on))
        go_big_quiet_want
        go_big_quiet_op
        refine ⟨.int .i64 (x0 : Int), fun wx hx => by simp [go_sem, (hat.out wx (LastC.at hx)).1.1], ?_⟩
        go_big_quiet_on
        iterate 2 (go_big_quiet_want; go_big_quiet_op; first | go_big_quiet_on | (refine ⟨_, fun _ _ => rfl, ?_⟩; go_big_quiet_on))
        go_big_quiet_want
        go_big_quiet_op
        refine ⟨.pointer (some ⟨b0, 0, none⟩), fun wx hx => by simp [go_sem, (hat.out wx (LastC.at hx)).2.1.1], ?_⟩
        go_big_quiet_on
        iterate 2 (go_big_quiet_want; go_big_quiet_op; first | go_big_quiet_on | (refine ⟨_, fun _ _ => rfl, ?_⟩; go_big_quiet_on))
        go_big_quiet_want
        go_big_quiet_op
        refine ⟨.int .i64 (x0 : Int), fun wx hx => by simp [go_sem, (hat.out wx (LastC.at hx)).2.2.1], ?_⟩
        go_big_quiet_on
        iterate 5 (go_big_quiet_want; go_big_quiet_op; first | go_big_quiet_on | (refine ⟨_, fun _ _ => rfl, ?_⟩; go_big_quiet_on))
        go_big_quiet_want
        go_big_quiet_op
        refine ⟨.int .i64 (x1 : Int), fun wx hx => by simp [go_sem, (hat.out wx (LastC.at hx)).1.2], ?_⟩
        go_big_quiet_on
        iterate 2 (go_big_quiet_want; go_big_quiet_op; first | go_big_quiet_on | (refine ⟨_, fun _ _ => rfl, ?_⟩; go_big_quiet_on))
        go_big_quiet_want
        go_big_quiet_op
        refine ⟨.pointer (some ⟨b1, 0, none⟩), fun wx hx => by simp [go_sem, (hat.out wx (LastC.at hx)).2.1.2], ?_⟩
        go_big_quiet_on
        iterate 2 (go_big_quiet_want; go_big_quiet_op; first | go_big_quiet_on | (refine ⟨_, fun _ _ => rfl, ?_⟩; go_big_quiet_on))
        go_big_quiet_want
        go_big_quiet_op
        refine ⟨.int .i64 (x1 : Int), fun wx hx => by simp [go_sem, (hat.out wx (LastC.at hx)).2.2.2], ?_⟩
        go_big_quiet_on
        iterate 3 (go_big_quiet_want; go_big_quiet_op; first | go_big_quiet_on | (refine ⟨_, fun _ _ => rfl, ?_⟩; go_big_quiet_on))
        refine wpQuiet_nil ?_
        intro wz hwz
        have hBz := hbf.out wz (LastC.only hwz)
        go_wp2_with fail
        go_ret
        exact ⟨rfl, hBz⟩
end Go.Proofs.Ytdminbjenbbpaaa
