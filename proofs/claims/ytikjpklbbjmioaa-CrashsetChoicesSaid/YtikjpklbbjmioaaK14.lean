/- CrashsetChoices: the walk. -/
import Derived.Test.YtikjpklbbjmioaaK13
import Derived.Deep.RegionWith
import Derived.BigQuiet
import Derived.Test.YtikjpklbbjmioaaQR
namespace Go.Proofs.Ytikjpklbbjmioaa
open Go.RowKit Go.Maps Go.BigFrame
variable {w : World} {F : Own} {o o' h T : Nat} {R : Dv} {L : Lay}
variable {wx : World} {B : Nat}
theorem Two.r5count (hp : Two w B L h T R wx) : Calls Try.prog 20 #[.pointer (some ⟨h, 0, none⟩)] wx fun e w' => e = .returned (.tuple #[.int .u64 (((cntV R).1 : Nat) : Int), .bool (cntV R).2]) ∧ Two w B L h T R w' := by
  obtain ⟨F, h1, h2, h3⟩ := hp.ex
  exact (rcount_any h2).mono fun e w' ⟨he, hb⟩ => ⟨he, hp.below hb⟩
theorem Two.digits (hp : Two w B L h T R wx) (n : Nat) (hn : n < 18446744073709551616) : Calls Try.prog 32 #[.pointer (some ⟨h, 0, none⟩), .int .u64 (n : Int)] wx (SplitPost wx R n) := by
  obtain ⟨F, h1, h2, h3⟩ := hp.ex
  exact rdigits_any h2 n hn
theorem Two.choice (hp : Two w B L h T R wx) (n : Nat) (hn : n < 18446744073709551616) : Calls Try.prog 17 #[.pointer (some ⟨L.g, 0, none⟩), .int .u64 (n : Int)] wx (ChoicePost wx R n) := by
  obtain ⟨F, h1, h2, h3⟩ := hp.ex
  exact choice_any h1 n hn
theorem Two.cat (hp : Two w B L h T R wx) (n : Nat) (hn : n < 18446744073709551616) : Calls Try.prog 23 #[.pointer (some ⟨L.g, 0, none⟩), .int .u64 (n : Int)] wx (AtPost wx R n) := by
  obtain ⟨F, h1, h2, h3⟩ := hp.ex
  exact at_any h1 n hn
theorem Two.imageS (hp : Two w B L h T R wx) (ca : Option Addr) (cc : Nat) (ch : List Nat) (hch : Rd wx (.slice ca ch.length cc) ch.length (u8s ch)) (hcl : ch.length ≤ 9223372036854775807) (hc8 : ∀ x ∈ ch, x < 256) :
    Calls Try.prog 33 #[.pointer (some ⟨L.g, 0, none⟩), .slice ca ch.length cc] wx (SPost wx (strOf (bytesL (imageW R ch)))) := by
  obtain ⟨F, h1, h2, h3⟩ := hp.ex
  exact (image_any h1 ca cc ch hch hcl hc8).mono fun _ _ x => x.s
set_option maxHeartbeats 8000000 in
set_option maxRecDepth 100000 in
theorem choices_walk (W : World) (lines : Int) (a : Option Addr) (c : Nat) (xs : List Evt) (hr : RunIn W lines a c xs) (n : Nat) (hn : n < 18446744073709551616) :
    Calls Try.prog 7 #[.agg #[.int .i64 lines, .slice a xs.length c], .int .u64 (n : Int)] W fun e w' => e = .returned (.bool true) ∧ Below W.heap.size W w' := by
  have hb1 : Below W.heap.size W (W.alloc (.cells #[.int .i64 lines, .slice a xs.length c] 54)) := (Below.refl _ _).alloc (Nat.le_refl _) _
  have hpl := play5_any hr hb1
  have hl6 := played_len lines (xs.take 30)
  generalize playP (newP (nLines lines)) (xs.take 30) = R at *
  have c0 := (Has.new W [.int .i64 lines, .slice a xs.length c] 54).cell (o := 0) rfl
  have c1 := (Has.new W [.int .i64 lines, .slice a xs.length c] 54).cell (o := 1) rfl
  replace hpl := Lib.hid hpl
  replace hb1 := Lib.hid hb1
  clear hr
  go_enter Try.func7, Try.ntmps7
  go_wp2_with fail
  refine hpl.out.mono ?_
  rintro e w1 ⟨L, h, rfl, t1⟩
  have b1 : ∀ wx, Two (W.alloc (.cells #[.int .i64 lines, .slice a xs.length c] 54)) (W.alloc (.cells #[.int .i64 lines, .slice a xs.length c] 54)).heap.size L h 60 R wx → Below W.heap.size W wx := fun wx hp => hb1.out.trans (hp.b.mono hb1.out.size)
  generalize (W.alloc (.cells #[.int .i64 lines, .slice a xs.length c] 54)).heap.size = B at *
  generalize W.alloc (.cells #[.int .i64 lines, .slice a xs.length c] 54) = W0 at *
  have hok := t1.ok
  have q1 := t1.r5count
  have q2 := fun wx (hp : Two W0 B L h 60 R wx) => hp.digits n hn
  have q3 := fun wx (hp : Two W0 B L h 60 R wx) => hp.choice n hn
  have q4 := fun wx (hp : Two W0 B L h 60 R wx) => hp.cat n hn
  have hcf := cnt_few hok hl6
  rw [hcf] at q1
  obtain ⟨cn, hcn⟩ : ∃ cn, cn = prodL R (dirtyL R) := ⟨_, rfl⟩
  simp only [← hcn] at q1
  have hdl := digR_len R (dirtyL R) n
  have hdl0 : (dirtyL R).length ≤ R.lines.length := dirtyTo_len R R.lines.length
  have hdle : ∀ k, k < (dirtyL R).length → (digR R (dirtyL R) n).getD k 0 ≤ 60 := fun k hk => by
    have h1 := get_of_lt 0 hk
    have h2 := (hok.ln _ (dirtyTo_mem (List.mem_of_getElem? h1)).1).hl
    exact Nat.le_trans (digR_le R _ n k _ h1) (by omega)
  have q5 := fun wx (hp : Two W0 B L h 60 R wx) (b : Nat) (hb : Has wx b (u8s (digR R (dirtyL R) n)) 5) => by
    have := hp.imageS (some ⟨b, 0, none⟩) (digR R (dirtyL R) n).length (digR R (dirtyL R) n) (Rd.of_has hb _ _) (by rw [hdl]; omega) (fun x hx => by
      obtain ⟨k, hk⟩ := List.mem_iff_getElem?.1 hx
      have hkl : k < (digR R (dirtyL R) n).length := by
        rcases Nat.lt_or_ge k (digR R (dirtyL R) n).length with h | h
        · exact h
        · rw [List.getElem?_eq_none h] at hk; cases hk
      have := hdle k (by rw [← hdl]; exact hkl)
      rw [List.getD_eq_getElem?_getD, hk] at this
      simp at this; omega)
    rw [image_digits, hdl] at this
    exact this
  unfold SplitPost at q2
  unfold ChoicePost at q3
  unfold AtPost at q4
  simp only [if_pos (fits60 hok)] at q3
  have hab : atB R n = bytesL (crashW R (kOf R (digR R (dirtyL R) n))) := rfl
  rw [← hab] at q5
  have hrz : atOk R n = true → n < cn := fun h => by rw [hcn]; exact rest_zero (by simpa [atOk] using h)
  have hat : atOk R n = decide (restR R (dirtyL R) n = 0) := rfl
  have hlen : 0 < (atB R n).length := by
    have n1 := hok.n1
    rw [hab, bytesL_len, crashW_len hok]; omega
  have hBy := fun wx => (ibytes_any wx (atB R n) (bytesL_256 _)).mono (fun e w' x => BytesRd.s x (bytesL_256 _) hlen)
  simp only [← hat] at q2
  generalize atOk R n = ok at *
  generalize strOf (atB R n) = st at *
  generalize digR R (dirtyL R) n = dg at *
  generalize (dirtyL R).length = m at *
  clear hab hat hcf hlen hcn
  replace q1 := Lib.hid q1
  replace q5 := Lib.hid q5
  replace b1 := Lib.hid b1
  replace hrz := Lib.hid hrz
  replace hBy := Lib.hid hBy
  replace hdle := Lib.hid hdle
  replace hdl := Lib.hid hdl
  clear hpl hb1 c0 c1 t1 hok
  go_wp2_with fail
  refine q1.out.mono ?_
  rintro e w2 ⟨rfl, t2⟩
  have q22 := Lib.hid (q2 _ t2)
  clear q1 q2
  go_wp2_with fail
  refine q22.out.mono ?_
  rintro e w3 ⟨db, rfl, hD, bD, _⟩
  have t3 := t2.below bD
  have q33 := q3 _ t3
  clear q22 q3 t2
  cases ok with
  | false =>
    simp only [Bool.false_eq_true, if_false] at q33
    replace q33 := Lib.hid q33
    go_wp2_with fail
    refine q33.out.mono ?_
    rintro e w4 ⟨b4, rfl⟩
    have hx := b1.out _ (t3.below b4)
    clear q33 t3 b4 hD bD q4 q5
    go_wp2_with fail
    go_ret
    exact ⟨rfl, hx⟩
  | true =>
    simp only [if_true] at q33
    replace q33 := Lib.hid q33
    go_wp2_with fail
    refine q33.out.mono ?_
    rintro e w4 ⟨b4, cb, rfl, hC, _⟩
    have t4 := t3.below b4
    have hD4 := hD.only (Only.of_below b4) (Nat.not_le.2 hD.lt)
    have q44 := q4 _ t4
    simp only [if_true] at q44
    have hnc := hrz.out trivial
    replace q44 := Lib.hid q44
    clear q33 t3 b4 hD bD q4
    go_wp2_with fail
    go_loopw [63] (fun iv wr => ∃ k : Nat, k ≤ m ∧ iv = .int .i64 (k : Int) ∧ wr = w4) (fun iv _ => m - (intOf iv).toNat)
    case atStart => exact ⟨0, Nat.zero_le _, rfl, rfl⟩
    case round =>
      obtain ⟨k, hk, rfl, rfl⟩ := hrel
      by_cases hkm : k < m
      · have d1 := decide_eq_true (show (k : Int) < (m : Int) by omega)
        have d0 : (k : Int) < (m : Int) := by omega
        have hle := hdle.out k hkm
        have cD := hD4.cell (o := k) (nats_get _ k _ (get_of_lt 0 (by rw [hdl.out]; exact hkm)))
        have cC := hC.cell (o := k) (u8s_get _ k _ (get_of_lt 0 (by rw [hdl.out]; exact hkm)))
        generalize dg.getD k 0 = dk at *
        clear q44 t4 hD4 hC
        go_wp2_with fail
        exact ⟨⟨k + 1, by omega, by go_num, trivial⟩, by simp [intOf]; omega⟩
      · obtain rfl : k = m := by omega
        clear hD4
        go_wp2_with fail
        refine q44.out.mono ?_
        rintro e w5 ⟨rfl, b5⟩
        obtain ⟨w6, hw6⟩ : ∃ w6, w6 = w5.alloc (.cells #[.string st] 44) := ⟨_, rfl⟩
        have b6 : Below wr.heap.size wr w6 := by rw [hw6]; exact b5.trans (((Below.refl _ _).alloc (Nat.le_refl _) _).mono b5.size)
        have cI : w6.cell? ⟨w5.heap.size, 0, none⟩ = some (.string st) := by rw [hw6]; exact (Has.new w5 [.string st] 44).cell (o := 0) rfl
        have t6 := t4.below b6
        have hC6 := hC.only (Only.of_below b6) (Nat.not_le.2 hC.lt)
        have kF : ∀ wx, Below w6.heap.size w6 wx → Below W.heap.size W wx := fun wx hB => b1.out _ (t6.below hB)
        have sImg : ∀ wx, Below w6.heap.size w6 wx → Calls Try.prog 33 #[.pointer (some ⟨L.g, 0, none⟩), .slice (some ⟨cb, 0, none⟩) k k] wx (SPost wx st) := fun wx hB => q5.out wx (t6.below hB) cb (hC6.only (Only.of_below hB) (Nat.not_le.2 hC6.lt))
        have d3 : decide ((n : Int) < (cn : Int)) = true := decide_eq_true (by omega)
        have hI : ∀ wx, Below w6.heap.size w6 wx → wx.cell? ⟨w5.heap.size, 0, none⟩ = some (.string st) := fun wx hB => Only.cell (Only.of_below hB) cI (Nat.not_le.2 (World.block_lt_of_cell? _ _ cI))
        have kB : Below w6.heap.size w6 w6 := Below.refl _ _
        replace sImg := Lib.hid sImg
        replace kF := Lib.hid kF
        replace hI := Lib.hid hI
        clear q44 q5 t4 t6 hC hC6 b5 b6 hdle hdl
        replace hw6 := Lib.hid hw6
        go_wp2_with fail
        rw [← hw6.out]
        clear hw6
        refine wp_region_call2 10 13 [11] [14] (C0 := fun w' => w' = w6.drew) (C1 := fun v w' => Str w' v st ∧ Below w6.heap.size w6 w') (C2 := fun v u w' => Str w' v st ∧ Str w' u st ∧ Below w6.heap.size w6 w') (by kernel_rfl) (by kernel_rfl) (by decide) (by decide) (by kernel_rfl) (by kernel_rfl) (by kernel_rfl) rfl (fun wx hx => ?_) (fun v wx hx => ?_) (fun v u hx => ?_)
        · obtain ⟨e, w', v, _, h1, h2⟩ := Calls.ex (sImg.out wx (by rw [hx]; exact Fr.drew kB))
          exact ⟨v, w', h1, Fr.step (by rw [hx]; exact Fr.drew kB) h2⟩
        · obtain ⟨e, w', u, _, h1, h2⟩ := Calls.ex (hBy.out wx)
          exact ⟨u, w', hx.1.up h2, h1, Fr.step hx.2 h2⟩
        · obtain ⟨w', sA, sB, kC⟩ := hx
          refine lex_chunk 0 10 0 _ _ (fun _ _ => Nat.zero_le _) (by kernel_rfl) (fun j hj => by unfold rk2; rw [if_neg (by omega), if_neg (by omega)]) (by decide) ?_
          simp only [List.take_succ_cons, List.take_zero, List.drop_succ_cons, List.drop_zero]
          repeat (first | go_big_quiet_skip | (go_big_quiet_want; go_big_quiet_op; first | go_big_quiet_on | (refine ⟨_, fun _ _ => rfl, ?_⟩; go_big_quiet_on)))
          refine wpQuiet_nil ?_
          refine lex_call (r := 0) (v := v) rfl (by go_simp; exact rfl) rfl (by kernel_rfl) (fun wx hx => ?_) ?_
          · replace hx : wx = w6.drew := hx
            refine callUpon_mk (f := 33) (args := #[.pointer (some ⟨L.g, 0, none⟩), .slice (some ⟨cb, 0, none⟩) k k]) (by simp [go_sem]) ?_
            exact (sImg.out wx (by rw [hx]; exact Fr.drew kB)).mono fun e w'' ⟨v', he, h1, h2⟩ => ⟨v', he, h1, Fr.step (by rw [hx]; exact Fr.drew kB) h2⟩
          have cI0 : ∀ wx, clsAt (cls2 (fun w' => w' = w6.drew) (fun v w' => Str w' v st ∧ Below w6.heap.size w6 w') (fun v u w' => Str w' v st ∧ Str w' u st ∧ Below w6.heap.size w6 w')) [v, u] 0 wx → wx.cell? ⟨w5.heap.size, 0, none⟩ = some (.string st) := fun wx hx => hI.out wx (by
            rcases cls2_at0 hx with h | h | h
            · rw [h]; exact Fr.drew kB
            · exact h.2
            · exact h.2.2)
          have cV : ∀ wx, clsAt (cls2 (fun w' => w' = w6.drew) (fun v w' => Str w' v st ∧ Below w6.heap.size w6 w') (fun v u w' => Str w' v st ∧ Str w' u st ∧ Below w6.heap.size w6 w')) [v, u] 1 wx → (convert 31 9 v).run Try.prog wx = .ok (.string st) wx := fun wx hx => by
            rcases cls2_at1 hx with h | h
            · exact h.1 _ (Below.refl _ _)
            · exact h.1 _ (Below.refl _ _)
          have cU : ∀ wx, clsAt (cls2 (fun w' => w' = w6.drew) (fun v w' => Str w' v st ∧ Below w6.heap.size w6 w') (fun v u w' => Str w' v st ∧ Str w' u st ∧ Below w6.heap.size w6 w')) [v, u] 2 wx → (convert 31 9 u).run Try.prog wx = .ok (.string st) wx := fun wx hx => (cls2_at2 hx).2.1 _ (Below.refl _ _)
          replace cI0 := Lib.hid cI0
          replace cV := Lib.hid cV
          replace cU := Lib.hid cU
          refine lex_chunk 1 1 _ _ _ (fun j hj => by obtain rfl : j = 0 := by omega
                                                     decide) (by kernel_rfl) (fun j hj => by unfold rk2; rw [if_neg (by omega), if_neg (by omega)]) (by decide) ?_
          simp only [List.take_succ_cons, List.take_zero, List.drop_succ_cons, List.drop_zero]
          go_big_quiet_want
          go_big_quiet_op
          refine ⟨.string st, fun wx hx => by rw [cV.out wx hx]; exact ⟨rfl, rfl⟩, ?_⟩
          go_big_quiet_on
          refine wpQuiet_nil ?_
          refine lex_chunk 0 1 _ _ _ (fun _ _ => Nat.zero_le _) (by kernel_rfl) (fun j hj => by unfold rk2; rw [if_neg (by omega), if_neg (by omega)]) (by decide) ?_
          simp only [List.take_succ_cons, List.take_zero, List.drop_succ_cons, List.drop_zero]
          go_big_quiet_want
          go_big_quiet_op
          refine ⟨.agg #[.string st], fun wx hx => by simp [go_sem, cI0.out wx hx], ?_⟩
          go_big_quiet_on
          refine wpQuiet_nil ?_
          refine lex_call (r := 1) (v := u) rfl (by go_simp; exact rfl) rfl (by kernel_rfl) (fun wx hx => ?_) ?_
          · replace hx : Str wx v st ∧ Below w6.heap.size w6 wx := hx
            refine callUpon_mk (f := 24) (args := #[.agg #[.string st]]) (by simp [go_sem]) ?_
            exact (hBy.out wx).mono fun e w'' ⟨v', he, h1, h2⟩ => ⟨v', he, hx.1.up h2, h1, Fr.step hx.2 h2⟩
          refine lex_chunk 2 1 _ _ _ (fun j hj => by obtain rfl : j = 0 := by omega
                                                     decide) (by kernel_rfl) (fun j hj => by unfold rk2; rw [if_neg (by omega), if_neg (by omega)]) (by decide) ?_
          simp only [List.take_succ_cons, List.take_zero, List.drop_succ_cons, List.drop_zero]
          go_big_quiet_want
          go_big_quiet_op
          refine ⟨.string st, fun wx hx => by rw [cU.out wx hx]; exact ⟨rfl, rfl⟩, ?_⟩
          go_big_quiet_on
          refine wpQuiet_nil ?_
          refine lex_chunk 0 3 _ _ _ (fun _ _ => Nat.zero_le _) (by kernel_rfl) (fun j hj => by unfold rk2; rw [if_neg (by omega), if_neg (by omega)]) (by decide) ?_
          simp only [List.take_succ_cons, List.take_zero, List.drop_succ_cons, List.drop_zero]
          repeat (first | go_big_quiet_skip | (go_big_quiet_want; go_big_quiet_op; first | go_big_quiet_on | (refine ⟨_, fun _ _ => rfl, ?_⟩; go_big_quiet_on)))
          refine wpQuiet_nil ?_
          intro wz hz
          have kE := kF.out _ hz.2.2
          clear sA sB kC hz cI0 cV cU hI sImg kF
          simp only [Exit.then]
          go_wp2_with fail
          go_ret
          exact ⟨rfl, kE⟩
end Go.Proofs.Ytikjpklbbjmioaa
