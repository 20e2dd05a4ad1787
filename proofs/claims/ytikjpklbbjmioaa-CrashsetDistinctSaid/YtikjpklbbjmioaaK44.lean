/- CrashsetDistinct: the walk. -/
import Derived.Test.YtikjpklbbjmioaaK43
import Derived.Test.YtikjpklbbjmioaaK24
namespace Go.Proofs.Ytikjpklbbjmioaa
open Go.RowKit Go.Maps Go.BigFrame
attribute [local go_sem] Oper.semAt_some
variable {w : World} {F : Own} {o o' h T : Nat} {R : Dv} {L : Lay} {wx : World} {B : Nat}
theorem Two.ccountD (hp : Two w B L h T R wx) : Calls Try.prog 21 #[.pointer (some ⟨L.g, 0, none⟩)] wx fun e w' => e = .returned (.tuple #[.int .u64 (((cntV R).1 : Nat) : Int), .bool (cntV R).2]) ∧ Two w B L h T R w' := by
  obtain ⟨F, h1, h2, h3⟩ := hp.ex
  exact (ccount_any h1).mono fun e w' ⟨he, hb⟩ => ⟨he, hp.below hb⟩
theorem Two.cdistinct (hp : Two w B L h T R wx) (lim : Int) (hlm : lim ≤ 1000000) : Calls Try.prog 34 #[.pointer (some ⟨L.g, 0, none⟩), .int .i64 lim] wx fun e w' =>
    e = .returned (if lim < (prodL R (dirtyL R) : Int) then .tuple #[.int .i64 0, .int .i64 9] else .tuple #[.int .i64 ((prodC R (dirtyL R) : Nat) : Int), .int .i64 0]) ∧ Two w B L h T R w' := by
  obtain ⟨F, h1, h2, h3⟩ := hp.ex
  exact (distinct_any h1 lim hlm).mono fun e w' ⟨he, hb⟩ => ⟨he, hp.below hb⟩
def strKey (bs : List Nat) : Lit := .string (strOf bs).data.toList
theorem keyOf_strOf (bs : List Nat) (h : bs.length ≤ 1000000) : keyOf Try.prog 9 (.string (strOf bs)) = some (strKey bs) :=
  WideMaps.keyOf_string_mk Try.underlying9 (by rw [strOf_size]; unfold maxLen; omega)
def imgsL (R : Dv) (n : Nat) : List Lit := (List.range n).map fun k => strKey (atB R k)
theorem imgsL_len (R : Dv) (n : Nat) : (imgsL R n).length = n := by simp [imgsL]
theorem imgsL_succ (R : Dv) (n : Nat) : imgsL R (n + 1) = imgsL R n ++ [strKey (atB R n)] := by unfold imgsL; rw [List.range_succ, List.map_append]; rfl
theorem imgsL_key (R : Dv) (n : Nat) : ∀ x ∈ imgsL R n, WideAt.IsKeyLit x := by
  intro x hx
  obtain ⟨k, _, rfl⟩ := List.mem_map.1 hx
  trivial
theorem imgsL_card (hok : R.Ok T) : Card (imgsL R (prodL R (dirtyL R))) (prodC R (dirtyL R)) :=
  (at_card hok).trade fun a _ b _ => ⟨fun h => by rw [h], fun h => by
    unfold strKey at h
    injection h with h
    refine strOf_inj (bytesL_256 _) (bytesL_256 _) ?_
    cases h1 : strOf (atB R a) with | mk d1 =>
    cases h2 : strOf (atB R b) with | mk d2 =>
    rw [h1, h2] at h
    congr 1
    exact Array.ext' h⟩
theorem SetOf.roll {D : Nat} {c : Nat → Prop} {A C : World} {k : TypeId} {b : Nat} {xs : List Lit} (h : SetOf A k b xs) (hr : Roll D c A C) (hc : ¬ c b) (hb : b < D) : SetOf C k b xs := by
  obtain ⟨es, clock, h1, F, h3, hD⟩ := h
  exact ⟨es, clock, hr.2.1 _ _ h1 hc (.inl hb), F, h3, hD⟩
/-- What the round's region brings: the image's bytes, then its key in the map. -/
def DistA (A : World) (bs : List Nat) (v : Value) (w' : World) : Prop := ∃ bb c, v = .slice (some ⟨bb, 0, none⟩) bs.length c ∧ Rd w' v bs.length (u8s bs) ∧ Below A.heap.size A w' ∧ A.heap.size < bb
def DistC (A : World) (m : Nat) (bs : List Nat) (ks : List Lit) : List Value → World → Prop
  | [] => fun w' => w' = A.drew
  | [v] => fun w' => DistA A bs v w'
  | [v, u] => fun w' => u = undef ∧ ∃ w'', DistA A bs v w'' ∧ SetOf w' 9 m ks ∧ Only (fun j => j = m) w'' w'
  | _ => fun _ => False
theorem DistA.str {A : World} {bs : List Nat} {v : Value} {wx : World} (h : DistA A bs v wx) (h256 : ∀ x ∈ bs, x < 256) (hn : 0 < bs.length) : (convert 31 9 v).run Try.prog wx = .ok (.string (strOf bs)) wx := by
  obtain ⟨bb, c, rfl, h1, _⟩ := h
  exact (h1.str h256 hn) wx (Below.refl _ _)
theorem DistC.at {A : World} {m : Nat} {bs : List Nat} {ks : List Lit} {v : Value} {b : Nat} {wx : World} (hm : m < A.heap.size) (h : clsAt (DistC A m bs ks) [v, undef] b wx) :
    (b = 0 ∧ wx = A.drew) ∨ ∃ w'', Below A.heap.size A w'' ∧ Only (fun j => j = m) w'' wx ∧ (∃ bb c, v = .slice (some ⟨bb, 0, none⟩) bs.length c ∧ Rd wx v bs.length (u8s bs)) := by
  obtain ⟨k, hk, hx⟩ := h
  match k with
  | 0 => exact .inl ⟨by omega, hx⟩
  | 1 =>
    obtain ⟨bb, c, e, h1, h2, h3⟩ := hx
    exact .inr ⟨wx, h2, Only.refl _ _, bb, c, e, h1⟩
  | k + 2 =>
    have e : ([v, undef] : List Value).take (k + 2) = [v, undef] := by simp
    rw [e] at hx
    obtain ⟨_, w'', ⟨bb, c, e1, h1, h2, h3⟩, h4, h5⟩ := hx
    refine .inr ⟨w'', h2, h5, bb, c, e1, h1.only h5 (fun k hk e => ?_)⟩
    subst e1
    simp only [Value.ownBlock, Option.some.injEq] at hk
    omega
set_option maxHeartbeats 8000000 in
set_option maxRecDepth 100000 in
theorem distinct_walk (W : World) (lines : Int) (a : Option Addr) (c : Nat) (xs : List Evt) (hr : RunIn W lines a c xs) (lim : Int) (hlm : i64B lim) :
    Calls Try.prog 9 #[.agg #[.int .i64 lines, .slice a xs.length c], .int .i64 lim] W fun e w' => e = .returned (.bool true) ∧ Below W.heap.size W w' := by
  generalize hpost : (fun (e : Ending) w' => e = .returned (.bool true) ∧ Below W.heap.size W w') = post
  replace hpost := Lib.hid hpost
  obtain ⟨W0, hW0⟩ : ∃ W0, W0 = W.alloc (.cells #[.int .i64 lines, .slice a xs.length c] 54) := ⟨_, rfl⟩
  have hb1 : Below W.heap.size W W0 := by rw [hW0]; exact (Below.refl _ _).alloc (Nat.le_refl _) _
  have hpl := play5_any hr hb1
  have hl6 := played_len lines (xs.take 30)
  generalize playP (newP (nLines lines)) (xs.take 30) = R at *
  have c0 := (Has.new W [.int .i64 lines, .slice a xs.length c] 54).cell (o := 0) rfl
  have c1 := (Has.new W [.int .i64 lines, .slice a xs.length c] 54).cell (o := 1) rfl
  rw [hW0] at hpl
  replace hpl := Lib.hid hpl
  replace hb1 := Lib.hid hb1
  replace hW0 := Lib.hid hW0
  clear hr
  unfold i64B at hlm
  refine calls_of_marks Try.func9 rfl ?_
  simp only [Try.ntmps9, List.size_toArray, List.length_cons, List.length_nil, Nat.reduceAdd, Nat.reduceSub, Array.replicate_succ, Array.replicate_zero, List.push_toArray, List.append_toArray, List.nil_append, List.cons_append]
  go_wp2_with fail
  refine hpl.out.mono ?_
  rw [← hW0.out]
  rintro e w1 ⟨L, h, rfl, t1⟩
  have hok := t1.ok
  have hcf := cnt_few t1.ok hl6
  have q1 := t1.ccountD
  rw [hcf] at q1
  obtain ⟨P, hP⟩ : ∃ P, P = prodL R (dirtyL R) := ⟨_, rfl⟩
  simp only [← hP] at q1
  have hP1 : 1 ≤ P := by rw [hP]; exact prodL_pos R (dirtyL R)
  obtain ⟨lm, hlm2⟩ : ∃ lm : Int, lm = min lim 250 := ⟨_, rfl⟩
  have hlm3 : (if (250 : Int) < lim then (250 : Int) else lim) = lm := by
    by_cases h : (250 : Int) < lim
    · rw [if_pos h]; omega
    · rw [if_neg h]; omega
  have hlm4 : min lim 250 = lm := hlm2.symm
  have hlm5 : lm ≤ 250 := by omega
  have q2 := fun wx (hp : Two W0 W0.heap.size L h 60 R wx) => hp.cdistinct lm (by omega)
  simp only [← hP] at q2
  replace q1 := Lib.hid q1
  replace q2 := Lib.hid q2
  replace hlm2 := Lib.hid hlm2
  replace hcf := Lib.hid hcf
  replace hP := Lib.hid hP
  clear hpl c0 c1 t1
  go_wp2_with fail
  refine q1.out.mono ?_
  rintro e w2 ⟨rfl, t2⟩
  have q3 := q2.out w2 t2
  clear q1 q2 t2
  by_cases hov : lm < (P : Int)
  · rw [if_pos hov] at q3
    replace q3 := Lib.hid q3
    go_wp2_with fail
    refine q3.out.mono ?_
    rintro e w3 ⟨rfl, t3⟩
    have hx : post (.returned (.bool true)) w3 := by
      rw [← hpost.out]
      exact ⟨rfl, hb1.out.trans (t3.b.mono hb1.out.size)⟩
    replace hx := Lib.hid hx
    clear t3 q3
    by_cases h0 : lm < 0
    · have g0 : decide (lm < 0) = true := decide_eq_true h0
      go_wp2_with fail
      exact ⟨.bool true, by simp [results, Try.results9, go_sem], hx.out⟩
    · have g0 : decide (lm < 0) = false := decide_eq_false h0
      have hu : IntKind.u64.wrap lm = lm := IntWalk.u64_in _ (by omega)
      have g1 : decide (lm < (P : Int)) = true := decide_eq_true hov
      go_wp2_with fail
      exact ⟨.bool true, by simp [results, Try.results9, go_sem], hx.out⟩
  · rw [if_neg hov] at q3
    replace q3 := Lib.hid q3
    have g0 : decide (lm < 0) = false := decide_eq_false (by omega)
    have hu : IntKind.u64.wrap lm = lm := IntWalk.u64_in _ (by omega)
    have g1 : decide (lm < (P : Int)) = false := decide_eq_false hov
    go_wp2_with fail
    refine q3.out.mono ?_
    rintro e w3 ⟨rfl, t3⟩
    obtain ⟨w4, hw4⟩ : ∃ w4, w4 = (w3.alloc (.map #[] 0)).alloc (.cells #[.map (some w3.heap.size)] 72) := ⟨_, rfl⟩
    have hB34 : Below w3.heap.size w3 w4 := by rw [hw4]; exact ((Below.refl _ _).alloc (Nat.le_refl _) _).alloc (by simp) _
    have hX4 : Has w4 (w3.heap.size + 1) [.map (some w3.heap.size)] 72 := by
      have := Has.new (w3.alloc (.map #[] 0)) [.map (some w3.heap.size)] 72
      rw [World.size_alloc] at this
      rw [hw4]; exact this
    have hM4 : SetOf w4 9 w3.heap.size (imgsL R 0) := by
      rw [hw4]
      exact (SetOf.made w3 9).only (Only.of_below ((Below.refl (w3.alloc (.map #[] 0)).heap.size _).alloc (Nat.le_refl _) (.cells #[.map (some w3.heap.size)] 72))) (by simp)
    have hsz4 : w4.heap.size = w3.heap.size + 2 := by rw [hw4]; simp
    have hmm := @run_makeMap Try.prog
    have qc := fun wx g n => call_CAll wx g n
    have hbW := hb1.out.trans (t3.b.mono hb1.out.size)
    replace hsz4 := Lib.hid hsz4
    replace hX4 := Lib.hid hX4
    replace hM4 := Lib.hid hM4
    replace t3 := Lib.hid t3
    replace hw4 := Lib.hid hw4
    replace hbW := Lib.hid hbW
    clear q3
    go_wp2_with fail
    rw [← hw4.out]
    refine (call_CAll _ _ _).mono ?_
    rintro e w5 ⟨rfl, b5, hg1, hg2⟩
    have hsz4 := hsz4.out
    have hM5 := hM4.out.only (Only.of_below b5) (by omega)
    have hX5 := hX4.out.only (Only.of_below b5) (by omega)
    have hB5 : Below w3.heap.size w3 w5 := hB34.trans (b5.mono (by omega))
    have hz4 := World.block_lt_of_cell? _ _ hg2
    have hz5 : w4.heap.size + 1 < w5.heap.size := hz4
    have hseq : ∀ Wx, Below w5.heap.size w5 Wx → SeqOwn Fence.wide 2 Try.prog 73 #[.pointer (some ⟨w4.heap.size, 0, none⟩), .pointer (some ⟨w4.heap.size + 1, 0, none⟩)] (fun x : Nat => #[.agg #[.string (strOf (atB R x))]]) (fun k => k = w4.heap.size + 1)
        (fun _ pre x _ => x = pre.length ∧ restR R (dirtyL R) x = 0) (fun xs => xs.length = min lm.toNat (prodL R (dirtyL R))) (fun _ => True) lm.toNat Wx := fun Wx hb => by
      obtain ⟨F, h1, _⟩ := (t3.out.below (hB5.trans (hb.mono hB5.size))).ex
      exact all_own 2 _ _ lm Wx (by omega) h1 ((hb.cell (World.block_lt_of_cell? _ _ hg1)).trans hg1) ((hb.cell hz4).trans hg2)
    rw [← hP.out] at hseq
    replace hseq := Lib.hid hseq
    clear hg1 hg2 b5 hM4 hX4 qc hmm
    replace hsz4 := Lib.hid hsz4
    go_wp2_with fail
    refine wp_rangeFunc_rollB (α := Nat) (q := 13) (gf := 73) (lb := #[.pointer (some ⟨w4.heap.size, 0, none⟩), .pointer (some ⟨w4.heap.size + 1, 0, none⟩)]) rfl (enters_of Try.func73 (by kernel_rfl) rfl) (enc := fun x => .agg #[.string (strOf (atB R x))]) (r := fun k => k = w4.heap.size + 1) (Giv := fun _ pre x _ => x = pre.length ∧ restR R (dirtyL R) x = 0)
      (S := fun xs => xs.length = min lm.toNat P) (Sp := fun _ => True) (N := lm.toNat) hseq.out (fun k hk => by rw [hk]; exact hz4) (fun _ _ _ _ _ _ _ _ _ _ h => h)
      (fun c pre A => SetOf A 9 w3.heap.size (imgsL R pre.length) ∧ A.cell? ⟨w3.heap.size + 1, 0, none⟩ = some (.map (some w3.heap.size)) ∧ Below w3.heap.size w3 A) (fun c j pre A => False) ?hI ?hIx (fun c _ => ⟨hM5, hX5.cell (o := 0) rfl, hB5⟩) (fun x => [.string (strOf (atB R x))]) 44 (fun _ _ _ _ _ h => h) ?assign ?body ?done ?stop
    case hI =>
      rintro c pre A E hc ⟨h1, h2, h3⟩ hr
      have hsz4 := hsz4.out
      exact ⟨h1.roll hr (fun e => by have := hc _ e; omega) (by omega), hr.cell (fun e => by have := hc _ e; simp only at this; omega) h2, hr.below hc (by omega) h3 (Nat.le_refl _)⟩
    case hIx => intro c j pre A E hc h hr; exact h
    case assign =>
      intro l x A K hK
      gi_wp2
      exact hK
    case body =>
      rintro l c pre n b A hc hb hbx ⟨h1, h2, h3⟩ ⟨rfl, hrz⟩ hlen
      obtain ⟨hm5, hm6⟩ : w3.heap.size + 1 < w5.heap.size ∧ w3.heap.size ≠ w4.heap.size + 1 := by have := hsz4.out; omega
      have hn2 := hok.n2
      have hok1 := hok.n1
      have hwl := crashW_len hok (kOf R (digR R (dirtyL R) pre.length))
      have hbl : (atB R pre.length).length = R.lines.length * 64 := by unfold atB; rw [bytesL_len, hwl]; omega
      have hI := fun wx => ibytes_cap wx (atB R pre.length) (bytesL_256 _) (by omega)
      have hky := keyOf_strOf (atB R pre.length) (by omega)
      have h256 : ∀ x ∈ atB R pre.length, x < 256 := bytesL_256 _
      have hsu := imgsL_succ R pre.length
      have hil := imgsL_len R pre.length
      have cB := hbx.cell (o := 0) rfl
      have hpl : pre.length < 250 := by omega
      have hmA := h1.lt
      have hbA := World.block_lt_of_cell? _ _ cB
      have hxA := World.block_lt_of_cell? _ _ h2
      simp only at hbA hxA
      have hput : ∀ wx, Below A.heap.size A wx → ∃ w', (Instr.mapUpdate 72 (.map (some w3.heap.size)) (.string (strOf (atB R pre.length))) (.bool true)).run Try.prog wx = .ok () w' ∧ SetOf w' 9 w3.heap.size (imgsL R (pre.length + 1)) ∧ Only (fun j => j = w3.heap.size) wx w' := fun wx hB => by
        obtain ⟨w', g1, g2, g3⟩ := (h1.only (Only.of_below hB) (Nat.not_le.2 h1.lt)).put strKeyed Try.underlying72 (by rw [hil]; omega) hky
        exact ⟨w', g1, by rw [hsu]; exact g2, g3⟩
      clear hsu hil hky hwl hbx hrz
      generalize atB R pre.length = bs at *
      have hst := fun (v : Value) wx (h : DistA A bs v wx) => h.str h256 (by omega)
      replace hput := Lib.hid hput
      replace hst := Lib.hid hst
      replace hI := Lib.hid hI
      replace h1 := Lib.hid h1
      have kB : Below A.heap.size A A := Below.refl _ _
      gi_wp2_with fail
      refine wpIn_region_steps (fun _ => trivial) (fun h => (by cases h)) (fun f args w R c => CallsIn.inRound l (callsIn_wide.2 c)) [2, 4] [(3, 1)] (DistC A w3.heap.size bs (imgsL R (pre.length + 1))) (by kernel_rfl) (by kernel_rfl) (by kernel_rfl) ?hnd rfl (fun H w' hH hl => ?hex) (fun Hf hHf hx => ?_)
      case hnd =>
        intro i o ho c'
        match i with
        | 0 | 1 | 2 | 3 | 4 => simp at ho; subst ho; simp
        | i + 5 => simp at ho
      case hex =>
        match H with
        | [] =>
          obtain ⟨e, w'', bb, cc, _, _, _, g1, g2, g3⟩ := Calls.ex (hI.out w')
          have hH : w' = A.drew := hH
          exact ⟨_, w'', bb, cc, rfl, g1, Fr.step (by rw [hH]; exact Fr.drew kB) g2, by rw [hH] at g3; exact g3⟩
        | [v] =>
          have hH : DistA A bs v w' := hH
          obtain ⟨bb, cc, e, g1, g2, g3⟩ := id hH
          obtain ⟨w'', p1, p2, p3⟩ := hput.out w' g2
          exact ⟨undef, w'', rfl, w', hH, p2, p3⟩
        | _ :: _ :: _ => exact absurd hl (by simp)
      obtain ⟨v, hv⟩ : ∃ v, Hf = [v, undef] := by
        obtain ⟨w', hx⟩ := hx
        match Hf, hHf with
        | [v, u], _ => exact ⟨v, by rw [hx.1]⟩
      subst hv
      have hA0 : ∀ wx, clsAt (DistC A w3.heap.size bs (imgsL R (pre.length + 1))) [v, undef] 0 wx → ∃ w'', Below A.heap.size A w'' ∧ Only (fun j => j = w3.heap.size) w'' wx := fun wx hx => by
        rcases DistC.at hmA hx with ⟨_, e⟩ | ⟨w'', g1, g2, _⟩
        · exact ⟨A.drew, Fr.drew kB, by rw [e]; exact Only.refl _ _⟩
        · exact ⟨w'', g1, g2⟩
      have cX0 : ∀ wx, clsAt (DistC A w3.heap.size bs (imgsL R (pre.length + 1))) [v, undef] 0 wx → wx.cell? ⟨w3.heap.size + 1, 0, none⟩ = some (.map (some w3.heap.size)) := fun wx hx => by
        obtain ⟨w'', g1, g2⟩ := hA0 wx hx
        exact g2.cell ((g1.cell hxA).trans h2) (by simp)
      have cB0 : ∀ wx, clsAt (DistC A w3.heap.size bs (imgsL R (pre.length + 1))) [v, undef] 0 wx → wx.cell? ⟨b, 0, none⟩ = some (.string (strOf bs)) := fun wx hx => by
        obtain ⟨w'', g1, g2⟩ := hA0 wx hx
        exact g2.cell ((g1.cell hbA).trans cB) (by show b ≠ w3.heap.size; omega)
      have cV : ∀ wx, clsAt (DistC A w3.heap.size bs (imgsL R (pre.length + 1))) [v, undef] 1 wx → (convert 31 9 v).run Try.prog wx = .ok (.string (strOf bs)) wx := fun wx hx => by
        rcases DistC.at hmA hx with ⟨e, _⟩ | ⟨w'', g1, g2, bb, cc, rfl, g3⟩
        · cases e
        · exact g3.str h256 (by omega) wx (Below.refl _ _)
      replace cX0 := Lib.hid cX0
      replace cB0 := Lib.hid cB0
      replace cV := Lib.hid cV
      refine lex_chunk 0 2 _ _ _ (fun _ _ => Nat.zero_le _) (by kernel_rfl) (fun j hj => by
        match j, hj with
        | 0, _ | 1, _ => rfl) (by decide) ?_
      simp only [List.take_succ_cons, List.take_zero, List.drop_succ_cons, List.drop_zero]
      go_big_quiet_want
      go_big_quiet_op
      refine ⟨.map (some w3.heap.size), fun wx hx => by simp [go_sem, cX0.out wx hx], ?_⟩
      go_big_quiet_on
      go_big_quiet_want
      go_big_quiet_op
      refine ⟨.agg #[.string (strOf bs)], fun wx hx => by simp [go_sem, cB0.out wx hx], ?_⟩
      go_big_quiet_on
      refine wpQuiet_nil ?_
      refine lex_call (r := 0) (v := v) rfl (by go_simp; exact rfl) rfl (by kernel_rfl) (fun wx hx => ?_) ?_
      · replace hx : wx = A.drew := hx
        refine callUpon_mk (f := 24) (args := #[.agg #[.string (strOf bs)]]) (by simp [go_sem]) ?_
        exact (hI.out wx).mono fun e w'' ⟨bb, cc, he, _, _, g1, g2, g3⟩ => ⟨_, he, bb, cc, rfl, g1, Fr.step (by rw [hx]; exact Fr.drew kB) g2, by rw [hx] at g3; exact g3⟩
      refine lex_chunk 1 1 _ _ _ (fun j hj => by obtain rfl : j = 0 := by omega
                                                 decide) (by kernel_rfl) (fun j hj => by obtain rfl : j = 0 := by omega
                                                                                         rfl) (by decide) ?_
      simp only [List.take_succ_cons, List.take_zero, List.drop_succ_cons, List.drop_zero]
      go_big_quiet_want
      go_big_quiet_op
      refine ⟨.string (strOf bs), fun wx hx => by rw [cV.out wx hx]; exact ⟨rfl, rfl⟩, ?_⟩
      go_big_quiet_on
      refine wpQuiet_nil ?_
      refine lex_call (r := 1) (v := undef) rfl (by go_simp; exact rfl) rfl (by kernel_rfl) (fun wx hx => ?_) ?_
      · replace hx : DistA A bs v wx := hx
        obtain ⟨bb, cc, e, g1, g2, g3⟩ := id hx
        obtain ⟨w'', p1, p2, p3⟩ := hput.out wx g2
        exact callUpon_skip (by simp [execOp, go_sem, p1]) ⟨rfl, wx, hx, p2, p3⟩
      intro wz hz
      obtain ⟨_, w'', ⟨bb, cc, _, _, g2, _⟩, p2, p3⟩ : undef = undef ∧ ∃ w'', DistA A bs v w'' ∧ SetOf wz 9 w3.heap.size (imgsL R (pre.length + 1)) ∧ Only (fun j => j = w3.heap.size) w'' wz := hz
      have hk1 : KeepsFrom w5.heap.size A wz := ⟨Nat.le_trans g2.size p3.size, fun k o hge hk _ => by
        have hlt := (Array.getElem?_eq_some_iff.1 hk).1
        exact (p3.block k (Nat.lt_of_lt_of_le hlt g2.size) (by omega)).trans ((g2.block k hlt).trans hk)⟩
      have hkb : KeepB (fun k => c k ∨ k = w4.heap.size + 1) A wz := (KeepB.of_below g2 (Nat.le_refl _)).only p3 (fun i hi hc' => by
        rcases hc' with hc' | hc'
        · have := hc _ hc'; omega
        · omega)
      have h4 : Below w3.heap.size w3 wz := h3.trans ((g2.mono h3.size).trans (p3.below (B := w3.heap.size) (Nat.le_trans h3.size g2.size) (fun _ _ e => by omega)))
      have hll : (pre ++ [pre.length]).length = pre.length + 1 := by rw [List.length_append, List.length_singleton]
      have hX2 := p3.cell ((g2.cell hxA).trans h2) (by simp)
      have hN := Lib.hid (show KeepsFrom w5.heap.size A wz ∧ KeepB (fun k => c k ∨ k = w4.heap.size + 1) A wz ∧ SetOf wz 9 w3.heap.size (imgsL R (pre ++ [pre.length]).length) ∧ _ ∧ _ from ⟨hk1, hkb, by rw [hll]; exact p2, hX2, h4⟩)
      clear p2 p3 g2 hk1 hkb h4 hX2 hA0 cX0 cB0 cV hput hst hI
      try simp only [Exit.then]
      gi_wp2
      exact hN.out
    case done =>
      rintro D c xs' A hD hc hS ⟨h1, h2, h3⟩ hK
      have hxl : xs'.length = P := by have h9 : xs'.length = min lm.toNat P := hS; omega
      rw [hxl, hP.out] at h1
      have hlen := fun ty => h1.len Try.underlying72 (imgsL_key _ _) (imgsL_card hok) ty
      have hx : Below W.heap.size W A := hbW.out.trans (h3.mono hbW.out.size)
      have hWx := hbW.out.size
      have hx3 := hB5.size
      replace hx := Lib.hid hx
      replace hK := Lib.hid hK
      clear h1 hseq hM5 hX5
      go_wp2_with fail
      refine ⟨by simp, .inl ⟨_, _, rfl, run_takeDeferred hK.out, ?_⟩⟩
      have hPP := Roll.putObj (D := w5.heap.size) (c := fun _ => False) (.deferred none) hD hK.out rfl
      have hB7 := hPP.below (fun _ h => h.elim) (by omega) hx.out (Nat.le_refl _)
      refine ⟨.bool true, by simp [results, Try.results9, go_sem], ?_⟩
      rw [← hpost.out]
      exact ⟨rfl, hB7⟩
    case stop => rintro D c j pre A hD hc _ h _; exact h.elim
end Go.Proofs.Ytikjpklbbjmioaa
