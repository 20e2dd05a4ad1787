/- DeviceCopies: the walk. -/
import Derived.Test.YtkmhanjddkplbaaC4
import Derived.Test.YtkmhanjddkplbaaC6
namespace Go.Proofs.Ytkmhanjddkplbaa
open Go.RowKit Go.Maps
variable {w wx : World} {B h h' T T' : Nat} {R R' : Dv} {L L' : Lay}

theorem Two.copy (hp : Two w B L h T R wx) : Calls Try.prog 47 #[.pointer (some ⟨L.g, 0, none⟩)] wx fun e w' => ∃ L', e = .returned (.pointer (some ⟨L'.g, 0, none⟩)) ∧ Three w B L h T R L' T R w' := by
  obtain ⟨F, h1, h2, h3⟩ := hp.ex
  have k0 := F.drop_keep (o := 2) (o1 := 0) (by omega)
  have k1 := F.drop_keep (o := 2) (o1 := 1) (by omega)
  refine (copy_any (h1.retag k0) (o2 := 2) (by omega) (F.drop_ne 2)).mono ?_
  rintro e w' ⟨L2, F2, he, d0, d2, x, b⟩
  have hs := hp.b.size
  have hB := hp.hB
  exact ⟨L2, he, ⟨F2, d0, (h2.retag k1).belowX b x, d2, fun k hk => by rw [x k (by omega)]; exact h3.drop 2 k hk⟩, hp.b.trans (b.mono (Nat.le_trans hB hs)), hB⟩
theorem Three.rcopy (hp : Three w B L h T R L' T' R' wx) : Calls Try.prog 48 #[.pointer (some ⟨h, 0, none⟩)] wx fun e w' => ∃ h', e = .returned (.pointer (some ⟨h', 0, none⟩)) ∧ ∃ F, DevSt w' F 0 L T R ∧ RefSt w' F 1 h T R ∧ DevSt w' F 2 L' T' R' ∧ RefSt w' F 3 h' T R ∧ Free F B ∧ Below B w w' ∧ B ≤ w.heap.size := by
  obtain ⟨F, h1, h2, h3, h4⟩ := hp.ex
  refine (rcopy_any h2 (o2 := 3) (by omega)).mono ?_
  rintro e w' ⟨c, F2, he, r1, r3, x, b⟩
  have hs := hp.b.size
  have hB := hp.hB
  exact ⟨c, he, F2, h1.belowX b x, r1, h3.belowX b x, r3, fun k hk => by rw [x k (by omega)]; exact h4 k hk, hp.b.trans (b.mono (Nat.le_trans hB hs)), hB⟩
theorem Four.do1 (hp : Four w B L h T R L' h' T' R' wx) (hT : T + 2 ≤ 100000) (x : Evt) (hx : x.Fit) :
    Calls Try.prog 25 #[.pointer (some ⟨L.g, 0, none⟩), .pointer (some ⟨h, 0, none⟩), .agg #[.int .i64 x.kind, .int .i64 x.thr, .int .u64 (x.off : Int), .int .u64 (x.old : Int), .int .u64 (x.val : Int), .int .i64 x.n]] wx fun e w' => e = .returned (.bool true) ∧ Four w B L h (T + 2) (doP R x) L' h' T' R' w' := by
  obtain ⟨F, h1, h2, h3, h4, h5⟩ := hp.ex
  have hBx := Nat.le_trans hp.hB hp.b.size
  exact (do_any h1 h2 (by omega) hT x hx).mono fun e w' ⟨F', he, d1, d2, hs⟩ => ⟨he, ⟨F', d1, d2, h3.other2 hs (by omega) (by omega), h4.other2 hs (by omega) (by omega), h5.step2 hs hBx⟩, hp.b.trans (h5.below2 hs hBx), hp.hB⟩
theorem Four.do2 (hp : Four w B L h T R L' h' T' R' wx) (hT : T' + 2 ≤ 100000) (x : Evt) (hx : x.Fit) :
    Calls Try.prog 25 #[.pointer (some ⟨L'.g, 0, none⟩), .pointer (some ⟨h', 0, none⟩), .agg #[.int .i64 x.kind, .int .i64 x.thr, .int .u64 (x.off : Int), .int .u64 (x.old : Int), .int .u64 (x.val : Int), .int .i64 x.n]] wx fun e w' => e = .returned (.bool true) ∧ Four w B L h T R L' h' (T' + 2) (doP R' x) w' := by
  obtain ⟨F, h1, h2, h3, h4, h5⟩ := hp.ex
  have hBx := Nat.le_trans hp.hB hp.b.size
  exact (do_any h3 h4 (by omega) hT x hx).mono fun e w' ⟨F', he, d1, d2, hs⟩ => ⟨he, ⟨F', h1.other2 hs (by omega) (by omega), h2.other2 hs (by omega) (by omega), d1, d2, h5.step2 hs hBx⟩, hp.b.trans (h5.below2 hs hBx), hp.hB⟩
set_option maxHeartbeats 8000000 in
set_option maxRecDepth 100000 in
theorem copies_walk (W : World) (lines : Int) (a : Option Addr) (c : Nat) (xs : List Evt) (hr : RunIn W lines a c xs) (ys : List Evt) (hy : ∀ x ∈ ys, x.Fit) (a2 : Option Addr) (c2 : Nat) (hr2 : Rd W (.slice a2 ys.length c2) ys.length (evtCells ys)) (hyl : ys.length ≤ 9223372036854775807)
    (zs : List Evt) (hz : ∀ x ∈ zs, x.Fit) (a3 : Option Addr) (c3 : Nat) (hr3 : Rd W (.slice a3 zs.length c3) zs.length (evtCells zs)) (hzl : zs.length ≤ 9223372036854775807) :
    Calls Try.prog 10 #[.agg #[.int .i64 lines, .slice a xs.length c], .slice a2 ys.length c2, .slice a3 zs.length c3] W fun e w' => e = .returned (.bool true) ∧ Below W.heap.size W w' := by
  have hb1 : Below W.heap.size W (W.alloc (.cells #[.int .i64 lines, .slice a xs.length c] 40)) := (Below.refl _ _).alloc (Nat.le_refl _) _
  have hpl := hr.play hb1 30 30 rfl (by omega)
  generalize playP (newP (nLines lines)) (xs.take 30) = R at *
  have d0 := (Has.new W [.int .i64 lines, .slice a xs.length c] 40).cell (o := 0) rfl
  have d1 := (Has.new W [.int .i64 lines, .slice a xs.length c] 40).cell (o := 1) rfl
  replace hpl := Lib.hid hpl
  replace hb1 := Lib.hid hb1
  replace hr2 := Lib.hid hr2
  replace hr3 := Lib.hid hr3
  replace hy := Lib.hid hy
  replace hz := Lib.hid hz
  clear hr
  go_enter Try.func10, Try.ntmps10
  go_wp2_with fail
  refine hpl.out.mono ?_
  rintro e w1 ⟨L, h, rfl, t1⟩
  clear hpl d0 d1
  go_wp2_with fail
  refine (awake_any _).mono ?_
  rintro e w2 ⟨rfl, b2⟩
  have t2 := t1.below b2
  have cc := Lib.hid t2.copy
  clear b2 t1 t2
  go_wp2_with fail
  refine cc.out.mono ?_
  rintro e w3 ⟨L2, rfl, t3⟩
  have cr := Lib.hid t3.rcopy
  clear cc t3
  go_wp2_with fail
  refine cr.out.mono ?_
  rintro e w4 ⟨h2, rfl, F4, q1, q2, q3, q4, q5, q6, q7⟩
  have t4 : Four (W.alloc (.cells #[.int .i64 lines, .slice a xs.length c] 40)) (W.alloc (.cells #[.int .i64 lines, .slice a xs.length c] 40)).heap.size L h (2 * 30) R L2 h2 (2 * 30) R w4 := ⟨⟨F4, q1, q2, q3, q4, q5⟩, q6, q7⟩
  have cs := Lib.hid t4.same2
  clear cr q1 q2 q3 q4 q5 q6 q7 t4
  go_wp2_with fail
  refine cs.out.mono ?_
  rintro e w5 ⟨rfl, t5⟩
  clear cs
  generalize W.alloc (.cells #[.int .i64 lines, .slice a xs.length c] 40) = W1 at *
  go_wp2_with fail
  go_loopw [11] (fun v wr => ∃ k : Nat, k ≤ 12 ∧ k ≤ ys.length ∧ v = .int .i64 k ∧ Four W1 W1.heap.size L h (60 + 2 * k) (playP R (ys.take k)) L2 h2 60 R wr) (fun v _ => 12 - (intOf v).toNat)
  case atStart => exact ⟨0, by omega, Nat.zero_le _, rfl, t5⟩
  case round =>
    clear t5
    obtain ⟨k, hk, hkl, rfl, hF⟩ := hrel
    have hbq : Below W.heap.size W wr := hb1.out.trans (hF.b.mono hb1.out.size)
    by_cases hgo : k < ys.length ∧ k < 12
    · obtain ⟨hlt, hk12⟩ := hgo
      have hd3 : decide (k < ys.length) = true := decide_eq_true hlt
      have hd4 : decide ((k : Int) < 12) = true := decide_eq_true (by omega)
      have hd4' : (k : Int) < 12 := by omega
      have hkI : (k : Int) < (ys.length : Int) := by omega
      have hk0 : (0 : Int) ≤ (k : Int) := by omega
      obtain ⟨bl, ol, cl, ea, fa⟩ := (hr2.out.kept hbq).cells (by omega)
      simp only [Value.slice.injEq, true_and] at ea
      obtain ⟨rfl, e1⟩ := ea
      have hat := get_of_lt evt0 hlt
      have hfy : (ys.getD k evt0).Fit := hy.out _ (mem_getD evt0 hlt)
      have hnext := playP_take R ys k evt0 hlt
      generalize ys.getD k evt0 = y at *
      have x0 : wr.cell? ⟨bl, ol + k * 6, none⟩ = _ := fa _ _ (evtCells_get ys k y hat 0 _ rfl)
      have x1 : wr.cell? ⟨bl, ol + k * 6 + 1, none⟩ = _ := fa _ _ (evtCells_get ys k y hat 1 _ rfl)
      have x2 : wr.cell? ⟨bl, ol + k * 6 + 2, none⟩ = _ := fa _ _ (evtCells_get ys k y hat 2 _ rfl)
      have x3 : wr.cell? ⟨bl, ol + k * 6 + 3, none⟩ = _ := fa _ _ (evtCells_get ys k y hat 3 _ rfl)
      have x4 : wr.cell? ⟨bl, ol + k * 6 + 4, none⟩ = _ := fa _ _ (evtCells_get ys k y hat 4 _ rfl)
      have x5 : wr.cell? ⟨bl, ol + k * 6 + 5, none⟩ = _ := fa _ _ (evtCells_get ys k y hat 5 _ rfl)
      have hdo := hF.do1 (by omega) y hfy
      rw [← hnext, show 60 + 2 * k + 2 = 60 + 2 * (k + 1) by omega] at hdo
      replace hat := Lib.hid hat
      replace e1 := Lib.hid e1
      replace hdo := Lib.hid hdo
      clear fa hF hfy hbq hnext
      go_wp2_with fail
      refine hdo.out.mono ?_
      rintro e w11 ⟨rfl, g1⟩
      have hsm := Lib.hid g1.same1
      clear x0 x1 x2 x3 x4 x5 hdo g1
      go_wp2_with fail
      refine hsm.out.mono ?_
      rintro e w12 ⟨rfl, g2⟩
      have hsm2 := Lib.hid g2.same2
      clear hsm g2
      go_wp2_with fail
      refine hsm2.out.mono ?_
      rintro e w13 ⟨rfl, g3⟩
      clear hsm2
      go_wp2_with fail
      exact ⟨⟨k + 1, by omega, by omega, by go_num, g3⟩, by simp [intOf]; omega⟩
    · have hgo2 : (decide (k < ys.length) = false) ∨ (decide (k < ys.length) = true ∧ decide ((k : Int) < 12) = false ∧ ¬ (k : Int) < 12) := by
        by_cases h1 : k < ys.length
        · exact .inr ⟨decide_eq_true h1, decide_eq_false (by omega), by omega⟩
        · exact .inl (decide_eq_false h1)
      generalize playP R (ys.take k) = R1 at *
      generalize hT1 : 60 + 2 * k = T1 at *
      replace hT1 := Lib.hid hT1
      clear hgo hbq
      rcases hgo2 with hd3 | ⟨hd3, hd4, hd4'⟩
      all_goals
        as_aux_lemma =>
          go_wp2_with fail
          go_loopw [12] (fun v wr => ∃ k : Nat, k ≤ 12 ∧ k ≤ zs.length ∧ v = .int .i64 k ∧ Four W1 W1.heap.size L h T1 R1 L2 h2 (60 + 2 * k) (playP R (zs.take k)) wr) (fun v _ => 12 - (intOf v).toNat)
          case atStart => exact ⟨0, by omega, Nat.zero_le _, rfl, hF⟩
          case round =>
            clear hF
            obtain ⟨k, hk, hkl, rfl, hF⟩ := hrel
            have hbq : Below W.heap.size W wr := hb1.out.trans (hF.b.mono hb1.out.size)
            by_cases hgo : k < zs.length ∧ k < 12
            · obtain ⟨hlt, hk12⟩ := hgo
              have hd3 : decide (k < zs.length) = true := decide_eq_true hlt
              have hd4 : decide ((k : Int) < 12) = true := decide_eq_true (by omega)
              have hd4' : (k : Int) < 12 := by omega
              have hkI : (k : Int) < (zs.length : Int) := by omega
              have hk0 : (0 : Int) ≤ (k : Int) := by omega
              obtain ⟨bl, ol, cl, ea, fa⟩ := (hr3.out.kept hbq).cells (by omega)
              simp only [Value.slice.injEq, true_and] at ea
              obtain ⟨rfl, e1⟩ := ea
              have hat := get_of_lt evt0 hlt
              have hfy : (zs.getD k evt0).Fit := hz.out _ (mem_getD evt0 hlt)
              have hnext := playP_take R zs k evt0 hlt
              generalize zs.getD k evt0 = y at *
              have x0 : wr.cell? ⟨bl, ol + k * 6, none⟩ = _ := fa _ _ (evtCells_get zs k y hat 0 _ rfl)
              have x1 : wr.cell? ⟨bl, ol + k * 6 + 1, none⟩ = _ := fa _ _ (evtCells_get zs k y hat 1 _ rfl)
              have x2 : wr.cell? ⟨bl, ol + k * 6 + 2, none⟩ = _ := fa _ _ (evtCells_get zs k y hat 2 _ rfl)
              have x3 : wr.cell? ⟨bl, ol + k * 6 + 3, none⟩ = _ := fa _ _ (evtCells_get zs k y hat 3 _ rfl)
              have x4 : wr.cell? ⟨bl, ol + k * 6 + 4, none⟩ = _ := fa _ _ (evtCells_get zs k y hat 4 _ rfl)
              have x5 : wr.cell? ⟨bl, ol + k * 6 + 5, none⟩ = _ := fa _ _ (evtCells_get zs k y hat 5 _ rfl)
              have hdo := hF.do2 (by omega) y hfy
              rw [← hnext, show 60 + 2 * k + 2 = 60 + 2 * (k + 1) by omega] at hdo
              replace hat := Lib.hid hat
              replace e1 := Lib.hid e1
              replace hdo := Lib.hid hdo
              clear fa hF hfy hbq hnext
              go_wp2_with fail
              refine hdo.out.mono ?_
              rintro e w11 ⟨rfl, g1⟩
              have hsm := Lib.hid g1.same2
              clear x0 x1 x2 x3 x4 x5 hdo g1
              go_wp2_with fail
              refine hsm.out.mono ?_
              rintro e w12 ⟨rfl, g2⟩
              have hsm2 := Lib.hid g2.same1
              clear hsm g2
              go_wp2_with fail
              refine hsm2.out.mono ?_
              rintro e w13 ⟨rfl, g3⟩
              clear hsm2
              go_wp2_with fail
              exact ⟨⟨k + 1, by omega, by omega, by go_num, g3⟩, by simp [intOf]; omega⟩
            · have hgo2 : (decide (k < zs.length) = false) ∨ (decide (k < zs.length) = true ∧ decide ((k : Int) < 12) = false ∧ ¬ (k : Int) < 12) := by
                by_cases h1 : k < zs.length
                · exact .inr ⟨decide_eq_true h1, decide_eq_false (by omega), by omega⟩
                · exact .inl (decide_eq_false h1)
              replace hbq := Lib.hid hbq
              clear hgo hF
              rcases hgo2 with hd3 | ⟨hd3, hd4, hd4'⟩
              all_goals
                go_wp2_with fail
                go_ret
                exact ⟨rfl, hbq.out⟩
end Go.Proofs.Ytkmhanjddkplbaa
