/- CrashsetChanges: the walk. -/
import Derived.Test.YtikjpklbbjmioaaK40
import Derived.Test.YtikjpklbbjmioaaK29
import Derived.Test.YtikjpklbbjmioaaK24
import Derived.Test.YtikjpklbbjmioaaC4
namespace Go.Proofs.Ytikjpklbbjmioaa
open Go.RowKit Go.Maps Go.BigFrame
attribute [local go_sem] Oper.semAt_some
variable {w wx : World} {B h T T' : Nat} {R R' : Dv} {L L' : Lay}
/-- A device in both forms, and a second device; the blocks of N are nobody's. -/
structure TriN (w : World) (B : Nat) (L : Lay) (h T : Nat) (R : Dv) (L' : Lay) (T' : Nat) (R' : Dv) (N : List Nat) (wx : World) : Prop where
  ex : ∃ F, DevSt wx F 0 L T R ∧ RefSt wx F 1 h T R ∧ DevSt wx F 2 L' T' R' ∧ Free F B ∧ ∀ k ∈ N, F k = none
  b : Below B w wx
  hB : B ≤ w.heap.size
variable {N : List Nat}
theorem TriN.below {w' : World} (hp : TriN w B L h T R L' T' R' N wx) (hb : Below wx.heap.size wx w') : TriN w B L h T R L' T' R' N w' := by
  obtain ⟨F, h1, h2, h3, h5, h6⟩ := hp.ex
  exact ⟨⟨F, h1.below hb, h2.below hb, h3.below hb, h5, h6⟩, hp.b.trans (hb.mono (Nat.le_trans hp.hB hp.b.size)), hp.hB⟩
theorem TriN.box (hp : TriN w B L h T R L' T' R' N wx) (x : Obj) : TriN w B L h T R L' T' R' (wx.heap.size :: N) (wx.alloc x) := by
  obtain ⟨F, h1, h2, h3, h5, h6⟩ := hp.ex
  have hs := hp.b.size
  have hB := hp.hB
  refine ⟨⟨F.trim wx, h1.trim.alloc _, (h2.kept (Only.refl (fun _ => False) _) (F.trim_ext wx) (fun _ _ s => s.elim)).alloc _, h3.trim.alloc _, fun k hk => ?_, fun k hk => ?_⟩, hp.b.alloc (Nat.le_trans hB hs) _, hB⟩
  · rw [F.trim_ext wx k (by omega)]; exact h5 k hk
  · rcases List.mem_cons.1 hk with rfl | hk
    · exact F.trim_new wx (Nat.le_refl _)
    · by_cases hl : k < wx.heap.size
      · rw [F.trim_ext wx k hl]; exact h6 k hk
      · exact F.trim_new wx (by omega)
/-- The copy of a device, behind a new box. -/
theorem Two.copy5 (hp : Two w B L h T R wx) (x : Obj) : Calls Try.prog 40 #[.pointer (some ⟨L.g, 0, none⟩)] (wx.alloc x) fun e w' => ∃ L', e = .returned (.pointer (some ⟨L'.g, 0, none⟩)) ∧ TriN w B L h T R L' T R [wx.heap.size] w' ∧ Below (wx.alloc x).heap.size (wx.alloc x) w' := by
  obtain ⟨F, h1, h2, h3⟩ := hp.ex
  have hs := hp.b.size
  have hB := hp.hB
  have g1 : DevSt (wx.alloc x) (F.trim wx) 0 L T R := h1.trim.alloc _
  have g2 : RefSt (wx.alloc x) (F.trim wx) 1 h T R := (h2.kept (Only.refl (fun _ => False) _) (F.trim_ext wx) (fun _ _ s => s.elim)).alloc _
  have k0 := (F.trim wx).drop_keep (o := 2) (o1 := 0) (by omega)
  have k1 := (F.trim wx).drop_keep (o := 2) (o1 := 1) (by omega)
  refine (copy_any (g1.retag k0) (o2 := 2) (by omega) ((F.trim wx).drop_ne 2)).mono ?_
  rintro e w' ⟨L2, F2, he, d0, d2, x', b⟩
  have hF : ∀ k, F.trim wx k = none → (F.trim wx).drop 2 k = none := fun k hk => by unfold Own.drop; rw [hk]
  refine ⟨L2, he, ⟨⟨F2, d0, (g2.retag k1).belowX b x', d2, fun k hk => ?_, fun k hk => ?_⟩, (hp.b.alloc (Nat.le_trans hB hs) x).trans (b.mono (by simp; omega)), hB⟩, b⟩
  · rw [x' k (by simp; omega)]; exact hF k (by rw [F.trim_ext wx k (by omega)]; exact h3 k hk)
  · obtain rfl : k = wx.heap.size := by simpa using hk
    rw [x' _ (by simp)]; exact hF _ (F.trim_new wx (Nat.le_refl _))
theorem TriN.do5 (hp : TriN w B L h T R L' T' R' N wx) (hT : T + 2 ≤ 100000) (x : Evt) (hx : x.Fit) :
    Calls Try.prog 43 #[.pointer (some ⟨L.g, 0, none⟩), .pointer (some ⟨h, 0, none⟩), .agg #[.int .i64 x.kind, .int .i64 x.thr, .int .u64 (x.off : Int), .int .u64 (x.old : Int), .int .u64 (x.val : Int), .int .i64 x.n]] wx fun e w' => e = .returned (.bool true) ∧ TriN w B L h (T + 2) (doP R x) L' T' R' [] w' ∧ ∀ b cs Ty, b ∈ N → Has wx b cs Ty → Has w' b cs Ty := by
  obtain ⟨F, h1, h2, h3, h5, h6⟩ := hp.ex
  have hBx := Nat.le_trans hp.hB hp.b.size
  refine (do_any h1 h2 (by omega) hT x hx).mono fun e w' ⟨F', he, d1, d2, hs⟩ => ⟨he, ⟨⟨F', d1, d2, h3.other2 hs (by omega) (by omega), h5.step2 hs hBx, fun k hk => (by cases hk)⟩, hp.b.trans (h5.below2 hs hBx), hp.hB⟩, fun b cs Ty hb hh => hh.only hs.only ?_⟩
  rintro (⟨r, hr⟩ | ⟨r, hr⟩) <;> (rw [h6 b hb] at hr; cases hr)
theorem TriN.lines5 (hp : TriN w B L h T R L' T' R' N wx) : Calls Try.prog 41 #[.pointer (some ⟨L.g, 0, none⟩)] wx fun e w' => e = .returned (.int .i64 (R.lines.length : Int)) ∧ wx = w' := by
  obtain ⟨F, h1, h2, h3, h5⟩ := hp.ex
  exact lines_any h1
theorem TriN.hist5 (hp : TriN w B L h T R L' T' R' N wx) {i : Nat} (hi : i < R.lines.length) : Calls Try.prog 42 #[.pointer (some ⟨L.g, 0, none⟩), .int .i64 (i : Int)] wx fun e w' => ∃ a c, e = .returned (.slice a (R.line i).hist.length c) ∧ Below wx.heap.size wx w' := by
  obtain ⟨F, h1, h2, h3, h5⟩ := hp.ex
  exact (history_any h1 hi).mono fun e w' ⟨a, c, he, _, hb, _⟩ => ⟨a, c, he, hb⟩
theorem TriN.ok (hp : TriN w B L h T R L' T' R' N wx) : R.Ok T ∧ R'.Ok T' := by
  obtain ⟨F, h1, h2, h3, h5⟩ := hp.ex
  exact ⟨h1.ok, h3.ok⟩
theorem TriN.poss1 (hp : TriN w B L h T R L' T' R' N wx) (ws : List Nat) (m : Nat) (hm : ws.length = m * 8) (hm2 : m ≤ 5000) (hw : ∀ x ∈ ws, x < 18446744073709551616) : Calls Try.prog 27 #[.pointer (some ⟨L.g, 0, none⟩), .agg #[.string (strOf (bytesL ws))]] wx fun e w' => e = .returned (.bool (possB R ws)) ∧ Below wx.heap.size wx w' := by
  obtain ⟨F, h1, h2, h3, h5⟩ := hp.ex
  exact possible_any h1 ws m hm hm2 hw
theorem TriN.poss2 (hp : TriN w B L h T R L' T' R' N wx) (ws : List Nat) (m : Nat) (hm : ws.length = m * 8) (hm2 : m ≤ 5000) (hw : ∀ x ∈ ws, x < 18446744073709551616) : Calls Try.prog 27 #[.pointer (some ⟨L'.g, 0, none⟩), .agg #[.string (strOf (bytesL ws))]] wx fun e w' => e = .returned (.bool (possB R' ws)) ∧ Below wx.heap.size wx w' := by
  obtain ⟨F, h1, h2, h3, h5⟩ := hp.ex
  exact possible_any h3 ws m hm hm2 hw
set_option maxHeartbeats 8000000 in
set_option maxRecDepth 100000 in
theorem changes_walk (W : World) (lines : Int) (a : Option Addr) (c : Nat) (xs : List Evt) (hr : RunIn W lines a c xs) (x : Evt) (hx : x.Fit) (lim : Int) (hlm : i64B lim) :
    Calls Try.prog 12 #[.agg #[.int .i64 lines, .slice a xs.length c], .agg #[.int .i64 x.kind, .int .i64 x.thr, .int .u64 (x.off : Int), .int .u64 (x.old : Int), .int .u64 (x.val : Int), .int .i64 x.n], .int .i64 lim] W fun e w' => e = .returned (.bool true) ∧ Below W.heap.size W w' := by
  generalize hpost : (fun (e : Ending) w' => e = .returned (.bool true) ∧ Below W.heap.size W w') = post
  obtain ⟨W0, hW0⟩ : ∃ W0, W0 = ((W.alloc (.cells #[.int .i64 lines, .slice a xs.length c] 54)).alloc (.cells #[.int .i64 x.kind, .int .i64 x.thr, .int .u64 (x.off : Int), .int .u64 (x.old : Int), .int .u64 (x.val : Int), .int .i64 x.n] 84)).alloc (.cells #[.bool false] 4) := ⟨_, rfl⟩
  have hb1 : Below W.heap.size W W0 := by rw [hW0]; exact (((Below.refl _ _).alloc (Nat.le_refl _) _).alloc (by simp) _).alloc (by simp; omega) _
  have hRn : Has W0 W.heap.size [.int .i64 lines, .slice a xs.length c] 54 := by rw [hW0]; exact ((Has.new W [.int .i64 lines, .slice a xs.length c] 54).alloc _).alloc _
  have hEv : Has W0 (W.heap.size + 1) [.int .i64 x.kind, .int .i64 x.thr, .int .u64 (x.off : Int), .int .u64 (x.old : Int), .int .u64 (x.val : Int), .int .i64 x.n] 84 := by
    have := (Has.new (W.alloc (.cells #[.int .i64 lines, .slice a xs.length c] 54)) [.int .i64 x.kind, .int .i64 x.thr, .int .u64 (x.off : Int), .int .u64 (x.old : Int), .int .u64 (x.val : Int), .int .i64 x.n] 84).alloc (.cells #[.bool false] 4)
    rw [World.size_alloc] at this
    rw [hW0]; exact this
  have hRs : Has W0 (W.heap.size + 1 + 1) [.bool false] 4 := by
    have := Has.new ((W.alloc (.cells #[.int .i64 lines, .slice a xs.length c] 54)).alloc (.cells #[.int .i64 x.kind, .int .i64 x.thr, .int .u64 (x.off : Int), .int .u64 (x.old : Int), .int .u64 (x.val : Int), .int .i64 x.n] 84)) [.bool false] 4
    rw [World.size_alloc, World.size_alloc] at this
    rw [hW0]; exact this
  have hpl := play5_any hr hb1
  have hl6 := played_len lines (xs.take 30)
  generalize playP (newP (nLines lines)) (xs.take 30) = R at *
  have c0 := hRn.cell (o := 0) rfl
  have c1 := hRn.cell (o := 1) rfl
  rw [hW0] at c0 c1 hpl
  unfold i64B at hlm
  replace hpl := Lib.hid hpl
  replace hb1 := Lib.hid hb1
  replace hEv := Lib.hid hEv
  replace hRs := Lib.hid hRs
  replace hW0 := Lib.hid hW0
  replace hpost := Lib.hid hpost
  replace hx := Lib.hid hx
  clear hr hRn
  refine calls_of_marks Try.func12 rfl ?_
  simp only [Try.ntmps12, List.size_toArray, List.length_cons, List.length_nil, Nat.reduceAdd, Nat.reduceSub, Array.replicate_succ, Array.replicate_zero, List.push_toArray, List.append_toArray, List.nil_append, List.cons_append]
  go_wp2_with fail
  refine hpl.out.mono ?_
  rw [← hW0.out]
  rintro e w1 ⟨L, h, rfl, t1⟩
  obtain ⟨lm, hlm2⟩ : ∃ lm : Int, lm = min lim 100 := ⟨_, rfl⟩
  have hlm3 : (if (100 : Int) < lim then (100 : Int) else lim) = lm := by
    by_cases h : (100 : Int) < lim
    · rw [if_pos h]; omega
    · rw [if_neg h]; omega
  have hlm4 : min lim 100 = lm := hlm2.symm
  have hlm5 : lm ≤ 100 := by omega
  obtain ⟨w2, hw2⟩ : ∃ w2, w2 = w1.alloc (.cells #[.pointer (some ⟨L.g, 0, none⟩)] 24) := ⟨_, rfl⟩
  have hB2 : Below w1.heap.size w1 w2 := by rw [hw2]; exact (Below.refl _ _).alloc (Nat.le_refl _) _
  have hD2 : Has w2 w1.heap.size [.pointer (some ⟨L.g, 0, none⟩)] 24 := by rw [hw2]; exact Has.new w1 [.pointer (some ⟨L.g, 0, none⟩)] 24
  have q1 := t1.copy5 (.cells #[.pointer (some ⟨L.g, 0, none⟩)] 24)
  have cD := hD2.cell (o := 0) rfl
  rw [hw2] at cD
  have hR1 := hRs.out.only (Only.of_below t1.b) (Nat.not_le.2 hRs.out.lt)
  have hE1 := hEv.out.only (Only.of_below t1.b) (Nat.not_le.2 hEv.out.lt)
  have hR2 := hR1.only (Only.of_below hB2) (Nat.not_le.2 hR1.lt)
  have hE2 := hE1.only (Only.of_below hB2) (Nat.not_le.2 hE1.lt)
  have hsz0 : W0.heap.size = W.heap.size + 1 + 1 + 1 := by rw [hW0.out]; simp
  have hs1 := t1.b.size
  replace q1 := Lib.hid q1
  replace hD2 := Lib.hid hD2
  replace hR2 := Lib.hid hR2
  replace hE2 := Lib.hid hE2
  replace hw2 := Lib.hid hw2
  replace hlm2 := Lib.hid hlm2
  have hRs0 := hRs
  clear hpl c0 c1 t1 hRs hEv hR1 hE1
  go_wp2_with fail
  refine q1.out.mono ?_
  rw [← hw2.out]
  rintro e w3 ⟨L2, rfl, t3, hB3⟩
  have hD3 := hD2.out.only (Only.of_below hB3) (Nat.not_le.2 hD2.out.lt)
  have hR3 := hR2.out.only (Only.of_below hB3) (Nat.not_le.2 hR2.out.lt)
  have hE3 := hE2.out.only (Only.of_below hB3) (Nat.not_le.2 hE2.out.lt)
  obtain ⟨w4, hw4⟩ : ∃ w4, w4 = w3.alloc (.cells #[.pointer (some ⟨L2.g, 0, none⟩)] 24) := ⟨_, rfl⟩
  have hB4 : Below w3.heap.size w3 w4 := by rw [hw4]; exact (Below.refl _ _).alloc (Nat.le_refl _) _
  have hS4 : Has w4 w3.heap.size [.pointer (some ⟨L2.g, 0, none⟩)] 24 := by rw [hw4]; exact Has.new w3 [.pointer (some ⟨L2.g, 0, none⟩)] 24
  have hD4 := hD3.only (Only.of_below hB4) (Nat.not_le.2 hD3.lt)
  have hR4 := hR3.only (Only.of_below hB4) (Nat.not_le.2 hR3.lt)
  have hE4 := hE3.only (Only.of_below hB4) (Nat.not_le.2 hE3.lt)
  have t4 : TriN W0 W0.heap.size L h 60 R L2 60 R [w3.heap.size, w1.heap.size] w4 := by rw [hw4]; exact t3.box _
  have hok := t4.ok.1
  have hn2 := hok.n2
  have hhl : ∀ i, i < R.lines.length → (R.line i).hist.length ≤ 60 := fun i hi => by have := (hok.ln i hi).hl; omega
  have hsum : ∀ n, n ≤ R.lines.length → sumH R n ≤ 60 * n := by
    intro n
    induction n with
    | zero => intro _; exact Nat.le_refl _
    | succ n ih => intro hn; have h1 := ih (by omega); have h2 := hhl n (by omega); simp only [sumH]; omega
  have hA : ∀ wx, Below w4.heap.size w4 wx → TriN W0 W0.heap.size L h 60 R L2 60 R [w3.heap.size, w1.heap.size] wx ∧ Has wx w1.heap.size [.pointer (some ⟨L.g, 0, none⟩)] 24 := fun wx hb => ⟨t4.below hb, hD4.only (Only.of_below hb) (Nat.not_le.2 hD4.lt)⟩
  have hE : ∀ wx, Below w4.heap.size w4 wx → Has wx w3.heap.size [.pointer (some ⟨L2.g, 0, none⟩)] 24 ∧ Has wx (W.heap.size + 1 + 1) [.bool false] 4 ∧ Has wx (W.heap.size + 1) [.int .i64 x.kind, .int .i64 x.thr, .int .u64 (x.off : Int), .int .u64 (x.old : Int), .int .u64 (x.val : Int), .int .i64 x.n] 84 := fun wx hb => ⟨hS4.only (Only.of_below hb) (Nat.not_le.2 hS4.lt), hR4.only (Only.of_below hb) (Nat.not_le.2 hR4.lt), hE4.only (Only.of_below hb) (Nat.not_le.2 hE4.lt)⟩
  have c4 := hD4.cell (o := 0) rfl
  have ql := t4.lines5
  rw [hw4] at c4 ql
  replace hA := Lib.hid hA
  replace hE := Lib.hid hE
  replace hsum := Lib.hid hsum
  replace hhl := Lib.hid hhl
  replace ql := Lib.hid ql
  replace hw4 := Lib.hid hw4
  clear q1 t3 hB3 hD3 hR3 hE3 hD4 hR4 hE4 t4 hB4 hS4 cD hD2 hR2 hE2
  go_wp2_with fail
  refine ql.out.mono ?_
  rw [← hw4.out]
  rw [← hw4.out] at c4
  rintro e w4' ⟨rfl, rfl⟩
  go_wp2_with fail
  go_loopw [11, 31] (fun sv iv wr => ∃ i : Nat, i ≤ R.lines.length ∧ iv = .int .i64 (i : Int) ∧ sv = .int .i64 ((sumH R i : Nat) : Int) ∧ Below w4.heap.size w4 wr) (fun _ iv _ => R.lines.length - (intOf iv).toNat)
  case atStart => exact ⟨0, Nat.zero_le _, rfl, rfl, Below.refl _ _⟩
  case round =>
    obtain ⟨i, hi, rfl, rfl, hBr⟩ := hrel
    by_cases hlt : i < R.lines.length
    · have d0 : decide ((i : Int) < (R.lines.length : Int)) = true := decide_eq_true (by omega)
      have d0N : decide (i < R.lines.length) = true := decide_eq_true hlt
      obtain ⟨tr, hDr⟩ := hA.out wr hBr
      have cr := hDr.cell (o := 0) rfl
      have qh := Lib.hid (tr.hist5 hlt)
      have hs1' := hsum.out i hi
      have hh1 := hhl.out i hlt
      have hwi := Lib.hid (show wrap64 ((i : Int) + 1) = (i : Int) + 1 by unfold wrap64; omega)
      have hsu : sumH R (i + 1) = sumH R i + (R.line i).hist.length := rfl
      clear tr hDr c4
      generalize sumH R i = sm at *
      generalize (R.line i).hist.length = hl at *
      replace hsu := Lib.hid hsu
      go_wp2_with fail
      refine qh.out.mono ?_
      rintro e w5 ⟨ha, hc, rfl, hB5⟩
      have hBr2 := Lib.hid (hBr.trans (hB5.mono hBr.size))
      clear qh cr hB5 hBr
      go_wp2_with fail
      exact ⟨⟨i + 1, by omega, rfl, by rw [hsu.out]; simp, hBr2.out⟩, by simp [intOf]; omega⟩
    · obtain rfl : i = R.lines.length := by omega
      have d0 : decide ((R.lines.length : Int) < (R.lines.length : Int)) = false := decide_eq_false (by omega)
      have d0N : decide (R.lines.length < R.lines.length) = false := decide_eq_false (by omega)
      obtain ⟨tr, hDr⟩ := hA.out wr hBr
      obtain ⟨hSr, hRr, hEr⟩ := hE.out wr hBr
      have cD := hDr.cell (o := 0) rfl
      have e0 := hEr.cell (o := 0) rfl
      have e1 := hEr.cell (o := 1) rfl
      have e2 := hEr.cell (o := 2) rfl
      have e3 := hEr.cell (o := 3) rfl
      have e4 := hEr.cell (o := 4) rfl
      have e5 := hEr.cell (o := 5) rfl
      have qd := Lib.hid (tr.do5 (by omega) x hx.out)
      have hs60 := hsum.out R.lines.length (Nat.le_refl _)
      obtain ⟨R', hR'⟩ : ∃ R', R' = doP R x := ⟨_, rfl⟩
      rw [← hR'] at qd
      have hl' : R'.lines.length = R.lines.length := by rw [hR']; exact doP_len R x
      replace hDr := Lib.hid hDr
      replace hSr := Lib.hid hSr
      replace hR' := Lib.hid hR'
      clear c4 tr hEr hRr
      obtain ⟨H0, hH0⟩ : ∃ H0, H0 = sumH R R.lines.length := ⟨_, rfl⟩
      rw [← hH0] at hs60 ⊢
      replace hH0 := Lib.hid hH0
      go_wp2_with fail
      refine qd.out.mono ?_
      rintro e w6 ⟨rfl, t6, hkp⟩
      have hD6 := hkp w1.heap.size _ _ (by simp) hDr.out
      have hS6 := hkp w3.heap.size _ _ (by simp) hSr.out
      have hok' := t6.ok.1
      have hh' : ∀ i, i < R'.lines.length → (R'.line i).hist.length ≤ 62 := fun i hi => by have := (hok'.ln i hi).hl; omega
      have hsum' : ∀ n, n ≤ R'.lines.length → sumH R' n ≤ 62 * n := by
        intro n
        induction n with
        | zero => intro _; exact Nat.le_refl _
        | succ n ih => intro hn; have h1 := ih (by omega); have h2 := hh' n (by omega); simp only [sumH]; omega
      have hchg := fun n => changes_now hok hok' x hR'.out n
      have hA6 : ∀ wx, Below w6.heap.size w6 wx → TriN W0 W0.heap.size L h 62 R' L2 60 R [] wx ∧ Has wx w1.heap.size [.pointer (some ⟨L.g, 0, none⟩)] 24 ∧ Has wx w3.heap.size [.pointer (some ⟨L2.g, 0, none⟩)] 24 := fun wx hb => ⟨t6.below hb, hD6.only (Only.of_below hb) (Nat.not_le.2 hD6.lt), hS6.only (Only.of_below hb) (Nat.not_le.2 hS6.lt)⟩
      have hR6 : ∀ wx, Below w6.heap.size w6 wx → Has wx (W.heap.size + 1 + 1) [.bool false] 4 ∧ Below W.heap.size W wx := fun wx hb => by
        have t7 := t6.below hb
        exact ⟨hRs0.out.only (Only.of_below t7.b) (Nat.not_le.2 hRs0.out.lt), hb1.out.trans (t7.b.mono hb1.out.size)⟩
      have hl13 : w1.heap.size < w6.heap.size := hD6.lt
      have hl36 : w3.heap.size < w6.heap.size := hS6.lt
      have c6 := hD6.cell (o := 0) rfl
      have ql6 := Lib.hid t6.lines5
      replace hA6 := Lib.hid hA6
      replace hR6 := Lib.hid hR6
      replace hh' := Lib.hid hh'
      replace hsum' := Lib.hid hsum'
      replace hchg := Lib.hid hchg
      clear qd hkp hD6 hS6 t6 e0 e1 e2 e3 e4 e5 cD hDr hSr hA hE hBr hsum hhl
      go_wp2_with fail
      refine ql6.out.mono ?_
      rintro e w6' ⟨rfl, rfl⟩
      rw [hl'] 
      go_wp2_with fail
      go_loopw [13, 47] (fun sv iv wq => ∃ i : Nat, i ≤ R.lines.length ∧ iv = .int .i64 (i : Int) ∧ sv = .int .i64 ((sumH R' i : Nat) : Int) ∧ Below w6.heap.size w6 wq) (fun _ iv _ => R.lines.length - (intOf iv).toNat)
      case atStart => exact ⟨0, Nat.zero_le _, rfl, rfl, Below.refl _ _⟩
      case round =>
        clear c6 ql6
        obtain ⟨i, hi, rfl, rfl, hBq⟩ := hrel
        by_cases hlt : i < R.lines.length
        · have g0 : decide ((i : Int) < (R.lines.length : Int)) = true := decide_eq_true (by omega)
          have g0N : decide (i < R.lines.length) = true := decide_eq_true hlt
          obtain ⟨tq, hDq, _⟩ := hA6.out wr hBq
          have cr := hDq.cell (o := 0) rfl
          have qh := Lib.hid (tq.hist5 (i := i) (by omega))
          have hs1' := hsum'.out i (by omega)
          have hh1 := hh'.out i (by omega)
          have hwi := Lib.hid (show wrap64 ((i : Int) + 1) = (i : Int) + 1 by unfold wrap64; omega)
          have hsu : sumH R' (i + 1) = sumH R' i + (R'.line i).hist.length := rfl
          clear tq hDq
          generalize sumH R' i = sm at *
          generalize (R'.line i).hist.length = hl at *
          replace hsu := Lib.hid hsu
          go_wp2_with fail
          refine qh.out.mono ?_
          rintro e w7 ⟨ha, hc, rfl, hB7⟩
          have hBr2 := Lib.hid (hBq.trans (hB7.mono hBq.size))
          clear qh cr hB7 hBq
          go_wp2_with fail
          exact ⟨⟨i + 1, by omega, rfl, by rw [hsu.out]; simp, hBr2.out⟩, by simp [intOf]; omega⟩
        · obtain rfl : i = R.lines.length := by omega
          have g0 : decide ((R.lines.length : Int) < (R.lines.length : Int)) = false := decide_eq_false (by omega)
          have g0N : decide (R.lines.length < R.lines.length) = false := decide_eq_false (by omega)
          obtain ⟨tq, hDq, hSq⟩ := hA6.out wr hBq
          obtain ⟨H1, hH1⟩ : ∃ H1, H1 = sumH R' R.lines.length := ⟨_, rfl⟩
          rw [← hH1]
          by_cases hgt : H0 < H1
          · have hdc : decide ((H0 : Int) < (H1 : Int)) = true := decide_eq_true (by omega)
            have hdcN : decide (H0 < H1) = true := decide_eq_true hgt
            have cS := hSq.cell (o := 0) rfl
            replace hSq := Lib.hid hSq
            replace hDq := Lib.hid hDq
            go_wp2_with fail
            refine (call_CAll _ _ _).mono ?_
            rintro e w8 ⟨rfl, b8, hg1, hg2⟩
            have hB8 : Below w6.heap.size w6 w8 := hBq.trans (b8.mono hBq.size)
            have hz4 := World.block_lt_of_cell? _ _ hg2
            have hz3 : wr.heap.size + 1 < w8.heap.size := hz4
            have hzq := hBq.size
            have hseq : ∀ Wx, Below w8.heap.size w8 Wx → SeqOwn Fence.wide 2 Try.prog 73 #[.pointer (some ⟨wr.heap.size, 0, none⟩), .pointer (some ⟨wr.heap.size + 1, 0, none⟩)] (fun x : Nat => #[.agg #[.string (strOf (atB R x))]]) (fun k => k = wr.heap.size + 1)
                (fun _ pre x _ => x = pre.length ∧ restR R (dirtyL R) x = 0) (fun xs => xs.length = min lm.toNat (prodL R (dirtyL R))) (fun _ => True) lm.toNat Wx := fun Wx hb => by
              obtain ⟨F, h1, _, h3, _⟩ := (hA6.out Wx (hB8.trans (hb.mono hB8.size))).1.ex
              exact all_own 2 _ _ lm Wx (by omega) h3 ((hb.cell (World.block_lt_of_cell? _ _ hg1)).trans hg1) ((hb.cell hz4).trans hg2)
            have hb38 : Below wr.heap.size wr w8 := b8
            replace hseq := Lib.hid hseq
            clear hg1 hg2 b8
            go_wp2_with fail
            refine wp_rangeFunc_rollB (α := Nat) (q := 15) (gf := 73) (lb := #[.pointer (some ⟨wr.heap.size, 0, none⟩), .pointer (some ⟨wr.heap.size + 1, 0, none⟩)]) rfl (enters_of Try.func73 (by kernel_rfl) rfl) (enc := fun x => .agg #[.string (strOf (atB R x))]) (r := fun k => k = wr.heap.size + 1) (Giv := fun _ pre x _ => x = pre.length ∧ restR R (dirtyL R) x = 0)
              (S := fun xs => xs.length = min lm.toNat (prodL R (dirtyL R))) (Sp := fun _ => True) (N := lm.toNat) hseq.out (fun k hk => by rw [hk]; exact hz4) (fun _ _ _ _ _ _ _ _ _ _ h => h)
              (fun c pre A => Below wr.heap.size wr A) (fun c j pre A => False) ?hI ?hIx (fun c _ => hb38) (fun x => [.string (strOf (atB R x))]) 44 (fun _ _ _ _ _ h => h) ?assign ?body ?done ?stop
            case hI =>
              rintro c pre A E hc h3 hr
              exact hr.below hc (by omega) h3 (Nat.le_refl _)
            case hIx => intro c j pre A E hc h hr; exact h
            case assign =>
              intro l x A K hK
              gi_wp2
              exact hK
            case body =>
              rintro l c pre n b A hc hb hbx h3 ⟨rfl, hrz⟩ hlen
              have hB9 := hBq.trans (h3.mono hBq.size)
              obtain ⟨tA, hDA, hSA⟩ := hA6.out A hB9
              have hok1 := tA.ok
              have cX := hDA.cell (o := 0) rfl
              have cB := hbx.cell (o := 0) rfl
              have qp := tA.poss1 (crashW R (kOf R (digR R (dirtyL R) pre.length))) R.lines.length (crashW_len hok1.2 _) (by omega) (crashW_lt hok1.2 _)
              have hp : possB R' (crashW R (kOf R (digR R (dirtyL R) pre.length))) = true := (hchg.out pre.length).1 (by rw [← hH0.out, ← hH1]; exact hgt)
              rw [hp] at qp
              replace qp := Lib.hid qp
              clear hbx hp hDA hSA
              unfold atB at cB ⊢
              generalize strOf (bytesL (crashW R (kOf R (digR R (dirtyL R) pre.length)))) = st at *
              gi_wp2_with (refine ⟨trivial, ?_⟩; gi_at_call 27; refine (CallsIn.inRound l (callsIn_wide.2 qp.out)).mono ?_; rintro e w9 ⟨rfl, hB10⟩)
              have hk1 : KeepsFrom w8.heap.size A w9 := ⟨hB10.size, fun k o _ hk _ => (hB10.block k (Array.getElem?_eq_some_iff.1 hk).1).trans hk⟩
              have hkb : KeepB (fun k => c k ∨ k = wr.heap.size + 1) A w9 := KeepB.of_below hB10 (Nat.le_refl _)
              have h39 : Below wr.heap.size wr w9 := h3.trans (hB10.mono h3.size)
              clear qp tA
              gi_wp2
              exact ⟨hk1, hkb, h39⟩
            case done =>
              rintro D c xs' A hD hc hS h3 hK
              have hB9 := hBq.trans (h3.mono hBq.size)
              obtain ⟨hRA, hbA⟩ := hR6.out A hB9
              have cR5 := hRA.cell (o := 0) rfl
              have fR5 := hRA.free 0
              have hlA := hRA.lt
              have hz6 := (hb1.out.trans (Below.refl _ _)).size
              go_wp2_with fail
              have hR7 := hRA.set 0 (.bool true)
              have hK6 : (A.setCell ⟨W.heap.size + 1 + 1, 0, none⟩ (.bool true)).heap[D]? = some (.deferred (some [])) := by
                rw [heap_setCell_ne (by show D ≠ W.heap.size + 1 + 1; omega)]
                exact hK
              have hB6 : Below W.heap.size W (A.setCell ⟨W.heap.size + 1 + 1, 0, none⟩ (.bool true)) := hbA.setCell (p := ⟨W.heap.size + 1 + 1, 0, none⟩) (by show W.heap.size ≤ W.heap.size + 1 + 1; omega) _
              refine ⟨by simp, .inl ⟨_, _, rfl, run_takeDeferred hK6, ?_⟩⟩
              have hP := Roll.putObj (D := w8.heap.size) (c := fun _ => False) (.deferred none) hD hK6 rfl
              have cR8 := hP.cell (p := ⟨W.heap.size + 1 + 1, 0, none⟩) (fun h => h) (hR7.cell (o := 0) rfl)
              have hB7 := hP.below (fun _ h => h.elim) (by omega) hB6 (Nat.le_refl _)
              refine ⟨.bool true, by simp [results, Try.results12, go_sem, cR8], ?_⟩
              rw [← hpost.out]
              exact ⟨rfl, hB7⟩
            case stop => rintro D c j pre A hD hc _ h _; exact h.elim
          · have hdc : decide ((H0 : Int) < (H1 : Int)) = false := decide_eq_false (by omega)
            have hdcN : decide (H0 < H1) = false := decide_eq_false hgt
            have cS := hDq.cell (o := 0) rfl
            replace hSq := Lib.hid hSq
            replace hDq := Lib.hid hDq
            go_wp2_with fail
            refine (call_CAll _ _ _).mono ?_
            rintro e w8 ⟨rfl, b8, hg1, hg2⟩
            have hB8 : Below w6.heap.size w6 w8 := hBq.trans (b8.mono hBq.size)
            have hz4 := World.block_lt_of_cell? _ _ hg2
            have hz3 : wr.heap.size + 1 < w8.heap.size := hz4
            have hzq := hBq.size
            have hseq : ∀ Wx, Below w8.heap.size w8 Wx → SeqOwn Fence.wide 2 Try.prog 73 #[.pointer (some ⟨wr.heap.size, 0, none⟩), .pointer (some ⟨wr.heap.size + 1, 0, none⟩)] (fun x : Nat => #[.agg #[.string (strOf (atB R' x))]]) (fun k => k = wr.heap.size + 1)
                (fun _ pre x _ => x = pre.length ∧ restR R' (dirtyL R') x = 0) (fun xs => xs.length = min lm.toNat (prodL R' (dirtyL R'))) (fun _ => True) lm.toNat Wx := fun Wx hb => by
              obtain ⟨F, h1, _, h3, _⟩ := (hA6.out Wx (hB8.trans (hb.mono hB8.size))).1.ex
              exact all_own 2 _ _ lm Wx (by omega) h1 ((hb.cell (World.block_lt_of_cell? _ _ hg1)).trans hg1) ((hb.cell hz4).trans hg2)
            have hb38 : Below wr.heap.size wr w8 := b8
            replace hseq := Lib.hid hseq
            clear hg1 hg2 b8
            go_wp2_with fail
            refine wp_rangeFunc_rollB (α := Nat) (q := 16) (gf := 73) (lb := #[.pointer (some ⟨wr.heap.size, 0, none⟩), .pointer (some ⟨wr.heap.size + 1, 0, none⟩)]) rfl (enters_of Try.func73 (by kernel_rfl) rfl) (enc := fun x => .agg #[.string (strOf (atB R' x))]) (r := fun k => k = wr.heap.size + 1) (Giv := fun _ pre x _ => x = pre.length ∧ restR R' (dirtyL R') x = 0)
              (S := fun xs => xs.length = min lm.toNat (prodL R' (dirtyL R'))) (Sp := fun _ => True) (N := lm.toNat) hseq.out (fun k hk => by rw [hk]; exact hz4) (fun _ _ _ _ _ _ _ _ _ _ h => h)
              (fun c pre A => Below wr.heap.size wr A) (fun c j pre A => False) ?hI ?hIx (fun c _ => hb38) (fun x => [.string (strOf (atB R' x))]) 44 (fun _ _ _ _ _ h => h) ?assign ?body ?done ?stop
            case hI =>
              rintro c pre A E hc h3 hr
              exact hr.below hc (by omega) h3 (Nat.le_refl _)
            case hIx => intro c j pre A E hc h hr; exact h
            case assign =>
              intro l x A K hK
              gi_wp2
              exact hK
            case body =>
              rintro l c pre n b A hc hb hbx h3 ⟨rfl, hrz⟩ hlen
              have hB9 := hBq.trans (h3.mono hBq.size)
              obtain ⟨tA, hDA, hSA⟩ := hA6.out A hB9
              have hok1 := tA.ok
              have cX := hSA.cell (o := 0) rfl
              have cB := hbx.cell (o := 0) rfl
              have qp := tA.poss2 (crashW R' (kOf R' (digR R' (dirtyL R') pre.length))) R'.lines.length (crashW_len hok1.1 _) (by rw [hl']; omega) (crashW_lt hok1.1 _)
              have hp : possB R (crashW R' (kOf R' (digR R' (dirtyL R') pre.length))) = true := (hchg.out pre.length).2 (by rw [← hH0.out, ← hH1]; exact hgt)
              rw [hp] at qp
              replace qp := Lib.hid qp
              clear hbx hp hDA hSA
              unfold atB at cB ⊢
              generalize strOf (bytesL (crashW R' (kOf R' (digR R' (dirtyL R') pre.length)))) = st at *
              gi_wp2_with (refine ⟨trivial, ?_⟩; gi_at_call 27; refine (CallsIn.inRound l (callsIn_wide.2 qp.out)).mono ?_; rintro e w9 ⟨rfl, hB10⟩)
              have hk1 : KeepsFrom w8.heap.size A w9 := ⟨hB10.size, fun k o _ hk _ => (hB10.block k (Array.getElem?_eq_some_iff.1 hk).1).trans hk⟩
              have hkb : KeepB (fun k => c k ∨ k = wr.heap.size + 1) A w9 := KeepB.of_below hB10 (Nat.le_refl _)
              have h39 : Below wr.heap.size wr w9 := h3.trans (hB10.mono h3.size)
              clear qp tA
              gi_wp2
              exact ⟨hk1, hkb, h39⟩
            case done =>
              rintro D c xs' A hD hc hS h3 hK
              have hB9 := hBq.trans (h3.mono hBq.size)
              obtain ⟨hRA, hbA⟩ := hR6.out A hB9
              have cR5 := hRA.cell (o := 0) rfl
              have fR5 := hRA.free 0
              have hlA := hRA.lt
              have hz6 := (hb1.out.trans (Below.refl _ _)).size
              go_wp2_with fail
              have hR7 := hRA.set 0 (.bool true)
              have hK6 : (A.setCell ⟨W.heap.size + 1 + 1, 0, none⟩ (.bool true)).heap[D]? = some (.deferred (some [])) := by
                rw [heap_setCell_ne (by show D ≠ W.heap.size + 1 + 1; omega)]
                exact hK
              have hB6 : Below W.heap.size W (A.setCell ⟨W.heap.size + 1 + 1, 0, none⟩ (.bool true)) := hbA.setCell (p := ⟨W.heap.size + 1 + 1, 0, none⟩) (by show W.heap.size ≤ W.heap.size + 1 + 1; omega) _
              refine ⟨by simp, .inl ⟨_, _, rfl, run_takeDeferred hK6, ?_⟩⟩
              have hP := Roll.putObj (D := w8.heap.size) (c := fun _ => False) (.deferred none) hD hK6 rfl
              have cR8 := hP.cell (p := ⟨W.heap.size + 1 + 1, 0, none⟩) (fun h => h) (hR7.cell (o := 0) rfl)
              have hB7 := hP.below (fun _ h => h.elim) (by omega) hB6 (Nat.le_refl _)
              refine ⟨.bool true, by simp [results, Try.results12, go_sem, cR8], ?_⟩
              rw [← hpost.out]
              exact ⟨rfl, hB7⟩
            case stop => rintro D c j pre A hD hc _ h _; exact h.elim
end Go.Proofs.Ytikjpklbbjmioaa
