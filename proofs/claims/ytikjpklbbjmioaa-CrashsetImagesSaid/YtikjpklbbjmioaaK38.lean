/- CrashsetImages: the walk. -/
import Derived.Test.YtikjpklbbjmioaaK36
namespace Go.Proofs.Ytikjpklbbjmioaa
open Go.RowKit Go.Maps Go.BigFrame
variable {w : World} {F : Own} {o o' h T : Nat} {R : Dv} {L : Lay} {wx : World} {B : Nat}
/-- Bytes that came in. -/
structure BytesIn (w : World) (a : Option Addr) (c : Nat) (ch : List Nat) : Prop where
  r : Rd w (.slice a ch.length c) ch.length (u8s ch)
  lt : ∀ x ∈ ch, x < 256
  m : ch.length ≤ 9223372036854775807
  c : ch.length ≤ c
theorem BytesIn.kept {w' : World} {a : Option Addr} {c : Nat} {ch : List Nat} (hb : BytesIn w a c ch) (h : Below w.heap.size w w') : BytesIn w' a c ch := ⟨hb.r.kept h, hb.lt, hb.m, hb.c⟩
theorem Rd.take {w : World} {a : Option Addr} {n m c : Nat} {xs : List Value} (h : Rd w (.slice a n c) n xs) (hl : xs.length = n) (hm : m ≤ n) : Rd w (.slice a m c) m (xs.take m) := by
  obtain ⟨a', c', he, h⟩ := h
  simp only [Value.slice.injEq, true_and] at he
  obtain ⟨rfl, rfl⟩ := he
  refine ⟨_, _, rfl, ?_⟩
  rcases h with ⟨rfl, rfl⟩ | ⟨b, off, rfl, h⟩
  · exact .inl ⟨by omega, by simp⟩
  · refine .inr ⟨b, off, rfl, fun j u hj => h j u ?_⟩
    rw [List.getElem?_take] at hj
    split at hj
    · exact hj
    · cases hj
theorem u8s_len (l : List Nat) : (u8s l).length = l.length := by simp [u8s]
theorem u8s_take (l : List Nat) (m : Nat) : u8s (l.take m) = (u8s l).take m := by simp [u8s, List.map_take]
theorem BytesIn.take {a : Option Addr} {c : Nat} {ch : List Nat} (hb : BytesIn w a c ch) (n : Nat) : BytesIn w a c (ch.take n) := by
  have h1 : (ch.take n).length ≤ ch.length := List.length_take_le' _ _
  refine ⟨?_, fun x hx => hb.lt x (List.mem_of_mem_take hx), Nat.le_trans h1 hb.m, Nat.le_trans h1 hb.c⟩
  have := hb.r.take (m := (ch.take n).length) (u8s_len _) h1
  rw [← u8s_take] at this
  have e : ch.take (ch.take n).length = ch.take n := by
    rw [List.length_take]
    rcases Nat.le_total n ch.length with h | h
    · rw [Nat.min_eq_left h]
    · rw [Nat.min_eq_right h, List.take_length, List.take_of_length_le h]
  rw [e] at this
  exact this
theorem BytesIn.of_row {a : Option Addr} {len cap : Nat} {zs : List Int} (h : IsRow .u8 w a len cap zs) : ∃ ch, ch.length = len ∧ BytesIn w a cap ch := by
  have hcap : len ≤ cap := by
    rcases h with ⟨_, rfl, rfl, _⟩ | ⟨x, _, hl, _⟩
    · exact Nat.le_refl _
    · exact hl
  obtain ⟨ys, h1, _, h2, h3, h4⟩ := h.rd
  have hy : ∀ y ∈ ys, 0 ≤ y ∧ y < 256 := fun y hy => by
    have := h3 y hy
    simp only [Lit.wf, Bool.and_eq_true, decide_eq_true_eq] at this
    have e1 : IntKind.min .u8 = 0 := by decide
    have e2 : IntKind.max .u8 = 255 := by decide
    rw [e1, e2] at this
    omega
  have hl : (ys.map Int.toNat).length = len := by simp [h1]
  refine ⟨ys.map Int.toNat, hl, ?_⟩
  have hu : u8s (ys.map Int.toNat) = ys.map (.int .u8) := by
    unfold u8s
    rw [List.map_map]
    apply List.map_congr_left
    intro y hyy
    have := hy y hyy
    simp only [Function.comp]
    congr 1; omega
  refine ⟨by rw [hl, hu]; exact h2, fun x hx => ?_, by omega, by omega⟩
  rw [List.mem_map] at hx
  obtain ⟨y, hyy, rfl⟩ := hx
  have := hy y hyy
  omega
set_option maxRecDepth 100000 in
theorem iequal_any (w : World) (s : ByteArray) : Calls Try.prog 36 #[.agg #[.string s], .agg #[.string s]] w fun e w' => e = .returned (.bool true) ∧ Below w.heap.size w w' := by
  generalize hpost : (fun (e : Ending) w' => e = .returned (.bool true) ∧ Below w.heap.size w w') = post
  have hB : Below w.heap.size w ((w.alloc (.cells #[.string s] 44)).alloc (.cells #[.string s] 44)) := ((Below.refl _ _).alloc (Nat.le_refl _) _).alloc (by simp) _
  have h1 := ((Has.new w [.string s] 44).alloc (.cells #[.string s] 44)).cell (o := 0) rfl
  have h2 := Has.new (w.alloc (.cells #[.string s] 44)) [.string s] 44
  rw [World.size_alloc] at h2
  have h3 := h2.cell (o := 0) rfl
  have hse : (s.toList == s.toList) = true := by simp
  have hx : Hid (post (.returned (.bool true)) ((w.alloc (.cells #[.string s] 44)).alloc (.cells #[.string s] 44))) := Lib.hid (by rw [← hpost]; exact ⟨rfl, hB⟩)
  replace hpost := Lib.hid hpost
  clear hB h2
  go_enter Try.func36, Try.ntmps36
  go_wp2_with fail
  exact hx.out
theorem Two.img (hp : Two w B L h T R wx) (ca : Option Addr) (cc : Nat) (ch : List Nat) (hch : BytesIn wx ca cc ch) : Calls Try.prog 33 #[.pointer (some ⟨L.g, 0, none⟩), .slice ca ch.length cc] wx (BytesPost wx (bytesL (imageW R ch))) := by
  obtain ⟨F, h1, h2, h3⟩ := hp.ex
  exact image_any h1 ca cc ch hch.r hch.m hch.lt
theorem Two.ccountZ (hp : Two w B L h T R wx) : Calls Try.prog 21 #[.pointer (some ⟨L.g, 0, none⟩)] wx (TotPost wx (cntV R)) := by
  obtain ⟨F, h1, h2, h3⟩ := hp.ex
  exact ccount_any h1
set_option maxHeartbeats 8000000 in
set_option maxRecDepth 100000 in
theorem images5_walk (W : World) (lines : Int) (a : Option Addr) (c : Nat) (xs : List Evt) (hr : RunIn W lines a c xs) (ca : Option Addr) (cc : Nat) (ch : List Nat) (hch : BytesIn W ca cc ch) :
    Calls Try.prog 10 #[.agg #[.int .i64 lines, .slice a xs.length c], .slice ca ch.length cc] W fun e w' => e = .returned (.bool true) ∧ Below W.heap.size W w' := by
  generalize hpost : (fun (e : Ending) w' => e = .returned (.bool true) ∧ Below W.heap.size W w') = post
  obtain ⟨W0, hW0⟩ : ∃ W0, W0 = W.alloc (.cells #[.int .i64 lines, .slice a xs.length c] 54) := ⟨_, rfl⟩
  have hb1 : Below W.heap.size W W0 := by rw [hW0]; exact (Below.refl _ _).alloc (Nat.le_refl _) _
  have hRn : Has W0 W.heap.size [.int .i64 lines, .slice a xs.length c] 54 := by rw [hW0]; exact Has.new W [.int .i64 lines, .slice a xs.length c] 54
  have hpl := play5_any hr hb1
  have hl6 := played_len lines (xs.take 30)
  generalize playP (newP (nLines lines)) (xs.take 30) = R at *
  have c0 := hRn.cell (o := 0) rfl
  have c1 := hRn.cell (o := 1) rfl
  rw [hW0] at c0 c1 hpl
  have hcc := hch.c
  have hcm := hch.m
  replace hpl := Lib.hid hpl
  replace hb1 := Lib.hid hb1
  replace hW0 := Lib.hid hW0
  replace hpost := Lib.hid hpost
  replace hch := Lib.hid hch
  clear hr hRn
  go_enter Try.func10, Try.ntmps10
  go_wp2_with fail
  refine hpl.out.mono ?_
  rw [← hW0.out]
  rintro e w1 ⟨L, h, rfl, t1⟩
  have hok := t1.ok
  have hch1 := (hch.out.take 20).kept (hb1.out.trans (t1.b.mono hb1.out.size))
  have hfin : ∀ wx, Two W0 W0.heap.size L h 60 R wx → post (.returned (.bool true)) wx := fun wx hp => by
    rw [← hpost.out]; exact ⟨rfl, hb1.out.trans (hp.b.mono hb1.out.size)⟩
  have q1 := t1.img _ _ _ hch1
  obtain ⟨ws, hws⟩ : ∃ ws, ws = imageW R (ch.take 20) := ⟨_, rfl⟩
  have hcw : ws = crashW R (chK R (ch.take 20)) := hws
  rw [← hws] at q1
  have hwl : ws.length = R.lines.length * 8 := by rw [hcw]; exact crashW_len hok _
  have hwt : ∀ x ∈ ws, x < 18446744073709551616 := by rw [hcw]; exact crashW_lt hok _
  have hpo : possB R ws = true := by rw [hcw]; exact poss_crash hok _ (fun l _ => chK_le R _ l)
  have hn2 := hok.n2
  have hfew := few hok hl6
  have hil := idx_lt R ws
  have hcf := cnt_few hok hl6
  obtain ⟨cn, hcn⟩ : ∃ cn, cn = prodL R (dirtyL R) := ⟨_, rfl⟩
  rw [← hcn] at hfew hil hcf
  obtain ⟨x, hx⟩ : ∃ x, x = idxN R ws := ⟨_, rfl⟩
  have hia := idx_at hok hpo
  rw [← hx] at hil hia
  have hiv : idxV R ws = (x, true) := by unfold idxV; rw [← hx, if_pos ⟨hpo, by omega⟩]
  have hbl : (bytesL ws).length = R.lines.length * 64 := by rw [bytesL_len]; omega
  have qN := fun wx b (hH : Has wx b (u8s (bytesL ws)) 5) => inew_any wx b (bytesL ws) R.lines.length hH (bytesL_256 _) hbl hn2
  have q2 := fun wx (hp : Two W0 W0.heap.size L h 60 R wx) => hp.cposs ws R.lines.length hwl (by omega) hwt
  have q3 := fun wx (hp : Two W0 W0.heap.size L h 60 R wx) => hp.cidx ws R.lines.length hwl (by omega) hwt
  have q4 := fun wx (hp : Two W0 W0.heap.size L h 60 R wx) => hp.ccountZ
  have q5 := fun wx (hp : Two W0 W0.heap.size L h 60 R wx) => hp.cat x (by omega)
  unfold IdxPost at q3
  unfold TotPost at q4
  unfold AtPost at q5
  simp only [if_pos hia.2, hia.1] at q5
  rw [hpo] at q2
  rw [hiv] at q3
  rw [hcf] at q4
  unfold BytesPost at q1
  unfold INewPost at qN
  rw [hbl] at q1 qN
  generalize strOf (bytesL ws) = st at *
  replace q1 := Lib.hid q1
  replace q2 := Lib.hid q2
  replace q3 := Lib.hid q3
  replace q4 := Lib.hid q4
  replace q5 := Lib.hid q5
  replace qN := Lib.hid qN
  replace hfin := Lib.hid hfin
  replace hiv := Lib.hid hiv
  replace hcf := Lib.hid hcf
  replace hcn := Lib.hid hcn
  replace hx := Lib.hid hx
  replace hws := Lib.hid hws
  replace hcw := Lib.hid hcw
  replace hwl := Lib.hid hwl
  replace hpo := Lib.hid hpo
  replace hia := Lib.hid hia
  replace hbl := Lib.hid hbl
  clear hpl c0 c1 hch1 hwt
  by_cases hlen : 20 < ch.length
  · have hk : (ch.take 20).length = 20 := by rw [List.length_take]; omega
    rw [hk] at q1
    obtain ⟨b0, o0, c0, ea, fa⟩ := hch.out.r.cells (by omega)
    simp only [Value.slice.injEq, true_and] at ea
    obtain ⟨rfl, ea2⟩ := ea
    replace ea2 := Lib.hid ea2
    replace hk := Lib.hid hk
    have d0 : decide ((20 : Int) < (ch.length : Int)) = true := decide_eq_true (by omega)
    have hcI : (20 : Int) ≤ (cc : Int) := by omega
    clear fa hch
    go_wp2_with fail
    refine q1.out.mono ?_
    rintro e w2 ⟨b, rfl, hH2, hB2, _⟩
    have t2 := t1.below hB2
    have qN2 := qN.out w2 b hH2
    replace qN2 := Lib.hid qN2
    clear q1 qN hB2 hH2 t1
    go_wp2_with fail
    refine qN2.out.mono ?_
    rintro e w3 ⟨rfl, hB3⟩
    have t3 := t2.below hB3
    obtain ⟨w4, hw4⟩ : ∃ w4, w4 = w3.alloc (.cells #[.string st] 44) := ⟨_, rfl⟩
    have hB4 : Below w3.heap.size w3 w4 := by rw [hw4]; exact (Below.refl _ _).alloc (Nat.le_refl _) _
    have hI4 : Has w4 w3.heap.size [.string st] 44 := by rw [hw4]; exact Has.new w3 [.string st] 44
    have t4 := t3.below hB4
    have q2' := q2.out w4 t4
    have i4 := hI4.cell (o := 0) rfl
    rw [hw4] at q2' i4
    replace q2' := Lib.hid q2'
    replace hI4 := Lib.hid hI4
    replace hw4 := Lib.hid hw4
    clear qN2 hB3 t2 t3 hB4 q2
    go_wp2_with fail
    refine q2'.out.mono ?_
    rw [← hw4.out]
    rintro e w5 ⟨rfl, hB5⟩
    have t5 := t4.below hB5
    have hI5 := hI4.out.only (Only.of_below hB5) (Nat.not_le.2 hI4.out.lt)
    have i5 := hI5.cell (o := 0) rfl
    have q3' := q3.out w5 t5
    replace q3' := Lib.hid q3'
    replace hI5 := Lib.hid hI5
    clear q2' hI4 hB5 t4 i4 q3 hw4
    go_wp2_with fail
    refine q3'.out.mono ?_
    rintro e w6 ⟨rfl, hB6⟩
    have t6 := t5.below hB6
    have hI6 := hI5.out.only (Only.of_below hB6) (Nat.not_le.2 hI5.out.lt)
    have q4' := q4.out w6 t6
    replace q4' := Lib.hid q4'
    replace hI6 := Lib.hid hI6
    clear q3' hI5 hB6 t5 i5 q4
    go_wp2_with fail
    refine q4'.out.mono ?_
    rintro e w7 ⟨rfl, hB7⟩
    have t7 := t6.below hB7
    have hI7 := hI6.out.only (Only.of_below hB7) (Nat.not_le.2 hI6.out.lt)
    have q5' := q5.out w7 t7
    have d1 : decide ((cn : Int) ≤ (x : Int)) = false := decide_eq_false (by omega)
    have d2 : decide (cn ≤ x) = false := decide_eq_false (by omega)
    replace q5' := Lib.hid q5'
    replace hI7 := Lib.hid hI7
    clear q4' hI6 hB7 t6 q5
    go_wp2_with fail
    refine q5'.out.mono ?_
    rintro e w8 ⟨rfl, hB8⟩
    have t8 := t7.below hB8
    have hI8 := hI7.out.only (Only.of_below hB8) (Nat.not_le.2 hI7.out.lt)
    obtain ⟨w9, hw9⟩ : ∃ w9, w9 = w8.alloc (.cells #[.string st] 44) := ⟨_, rfl⟩
    have hB9 : Below w8.heap.size w8 w9 := by rw [hw9]; exact (Below.refl _ _).alloc (Nat.le_refl _) _
    have hJ9 : Has w9 w8.heap.size [.string st] 44 := by rw [hw9]; exact Has.new w8 [.string st] 44
    have t9 := t8.below hB9
    have i9 := (hI8.only (Only.of_below hB9) (Nat.not_le.2 hI8.lt)).cell (o := 0) rfl
    have j9 := hJ9.cell (o := 0) rfl
    have qe := iequal_any w9 st
    rw [hw9] at qe i9 j9
    replace qe := Lib.hid qe
    replace hw9 := Lib.hid hw9
    clear q5' hI7 hB8 t7 hI8 t8 hB9 hJ9
    go_wp2_with fail
    refine qe.out.mono ?_
    rw [← hw9.out]
    rintro e w10 ⟨rfl, hB10⟩
    have hx := Lib.hid (hfin.out w10 (t9.below hB10))
    clear qe hB10 t9 i9 j9 hw9
    go_wp2_with fail
    exact hx.out
  · have hk : (ch.take 20).length = ch.length := by rw [List.length_take]; omega
    rw [hk] at q1
    replace hk := Lib.hid hk
    have d0 : decide ((20 : Int) < (ch.length : Int)) = false := decide_eq_false (by omega)
    have hl20 : ch.length ≤ 20 := by omega
    clear hch hcm
    go_wp2_with fail
    refine q1.out.mono ?_
    rintro e w2 ⟨b, rfl, hH2, hB2, _⟩
    have t2 := t1.below hB2
    have qN2 := qN.out w2 b hH2
    replace qN2 := Lib.hid qN2
    clear q1 qN hB2 hH2 t1
    go_wp2_with fail
    refine qN2.out.mono ?_
    rintro e w3 ⟨rfl, hB3⟩
    have t3 := t2.below hB3
    obtain ⟨w4, hw4⟩ : ∃ w4, w4 = w3.alloc (.cells #[.string st] 44) := ⟨_, rfl⟩
    have hB4 : Below w3.heap.size w3 w4 := by rw [hw4]; exact (Below.refl _ _).alloc (Nat.le_refl _) _
    have hI4 : Has w4 w3.heap.size [.string st] 44 := by rw [hw4]; exact Has.new w3 [.string st] 44
    have t4 := t3.below hB4
    have q2' := q2.out w4 t4
    have i4 := hI4.cell (o := 0) rfl
    rw [hw4] at q2' i4
    replace q2' := Lib.hid q2'
    replace hI4 := Lib.hid hI4
    replace hw4 := Lib.hid hw4
    clear qN2 hB3 t2 t3 hB4 q2
    go_wp2_with fail
    refine q2'.out.mono ?_
    rw [← hw4.out]
    rintro e w5 ⟨rfl, hB5⟩
    have t5 := t4.below hB5
    have hI5 := hI4.out.only (Only.of_below hB5) (Nat.not_le.2 hI4.out.lt)
    have i5 := hI5.cell (o := 0) rfl
    have q3' := q3.out w5 t5
    replace q3' := Lib.hid q3'
    replace hI5 := Lib.hid hI5
    clear q2' hI4 hB5 t4 i4 q3 hw4
    go_wp2_with fail
    refine q3'.out.mono ?_
    rintro e w6 ⟨rfl, hB6⟩
    have t6 := t5.below hB6
    have hI6 := hI5.out.only (Only.of_below hB6) (Nat.not_le.2 hI5.out.lt)
    have q4' := q4.out w6 t6
    replace q4' := Lib.hid q4'
    replace hI6 := Lib.hid hI6
    clear q3' hI5 hB6 t5 i5 q4
    go_wp2_with fail
    refine q4'.out.mono ?_
    rintro e w7 ⟨rfl, hB7⟩
    have t7 := t6.below hB7
    have hI7 := hI6.out.only (Only.of_below hB7) (Nat.not_le.2 hI6.out.lt)
    have q5' := q5.out w7 t7
    have d1 : decide ((cn : Int) ≤ (x : Int)) = false := decide_eq_false (by omega)
    have d2 : decide (cn ≤ x) = false := decide_eq_false (by omega)
    replace q5' := Lib.hid q5'
    replace hI7 := Lib.hid hI7
    clear q4' hI6 hB7 t6 q5
    go_wp2_with fail
    refine q5'.out.mono ?_
    rintro e w8 ⟨rfl, hB8⟩
    have t8 := t7.below hB8
    have hI8 := hI7.out.only (Only.of_below hB8) (Nat.not_le.2 hI7.out.lt)
    obtain ⟨w9, hw9⟩ : ∃ w9, w9 = w8.alloc (.cells #[.string st] 44) := ⟨_, rfl⟩
    have hB9 : Below w8.heap.size w8 w9 := by rw [hw9]; exact (Below.refl _ _).alloc (Nat.le_refl _) _
    have hJ9 : Has w9 w8.heap.size [.string st] 44 := by rw [hw9]; exact Has.new w8 [.string st] 44
    have t9 := t8.below hB9
    have i9 := (hI8.only (Only.of_below hB9) (Nat.not_le.2 hI8.lt)).cell (o := 0) rfl
    have j9 := hJ9.cell (o := 0) rfl
    have qe := iequal_any w9 st
    rw [hw9] at qe i9 j9
    replace qe := Lib.hid qe
    replace hw9 := Lib.hid hw9
    clear q5' hI7 hB8 t7 hI8 t8 hB9 hJ9
    go_wp2_with fail
    refine qe.out.mono ?_
    rw [← hw9.out]
    rintro e w10 ⟨rfl, hB10⟩
    have hx := Lib.hid (hfin.out w10 (t9.below hB10))
    clear qe hB10 t9 i9 j9 hw9
    go_wp2_with fail
    exact hx.out
theorem images5_row (W : World) (lines : Int) (a : Option Addr) (c : Nat) (xs : List Evt) (hr : RunIn W lines a c xs) {ca : Option Addr} {len cap : Nat} {zs : List Int} (hz : IsRow .u8 W ca len cap zs) :
    Calls Try.prog 10 #[.agg #[.int .i64 lines, .slice a xs.length c], .slice ca len cap] W fun e w' => e = .returned (.bool true) ∧ Below W.heap.size W w' := by
  obtain ⟨ch, rfl, hb⟩ := BytesIn.of_row hz
  exact images5_walk W lines a c xs hr ca cap ch hb
end Go.Proofs.Ytikjpklbbjmioaa
