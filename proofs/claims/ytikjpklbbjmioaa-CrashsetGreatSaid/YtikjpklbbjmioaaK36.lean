/- CrashsetKnows: the walk. -/
import Derived.Test.YtikjpklbbjmioaaK35
import Derived.Test.YtikjpklbbjmioaaK33
import Derived.Test.YtikjpklbbjmioaaK11
import Derived.Test.YtikjpklbbjmioaaQP
import Derived.Deep.DeepCutAuto
namespace Go.Proofs.Ytikjpklbbjmioaa
open Go.RowKit Go.Maps Go.BigFrame
variable {w : World} {F : Own} {o o' h T : Nat} {R : Dv} {L : Lay} {wx : World} {B : Nat}
theorem Two.r5idx (hp : Two w B L h T R wx) (ws : List Nat) (m : Nat) (a : Option Addr) (c : Nat) (hm : ws.length = m * 8) (hm2 : m ≤ 5000) (hc : m * 64 ≤ c) (hc2 : c ≤ 9223372036854775807) (hw : ∀ x ∈ ws, x < 18446744073709551616) (hr : Rd wx (.slice a (bytesL ws).length c) (bytesL ws).length (u8s (bytesL ws))) :
    Calls Try.prog 25 #[.pointer (some ⟨h, 0, none⟩), .slice a (bytesL ws).length c] wx (IdxPost wx R ws) := by
  obtain ⟨F, h1, h2, h3⟩ := hp.ex
  exact rindex_any h2 ws m a c hm hm2 hc hc2 hw hr
theorem Two.cidx (hp : Two w B L h T R wx) (ws : List Nat) (m : Nat) (hm : ws.length = m * 8) (hm2 : m ≤ 5000) (hw : ∀ x ∈ ws, x < 18446744073709551616) : Calls Try.prog 26 #[.pointer (some ⟨L.g, 0, none⟩), .agg #[.string (strOf (bytesL ws))]] wx (IdxPost wx R ws) := by
  obtain ⟨F, h1, h2, h3⟩ := hp.ex
  exact cindex_any h1 ws m hm hm2 hw
theorem Two.cposs (hp : Two w B L h T R wx) (ws : List Nat) (m : Nat) (hm : ws.length = m * 8) (hm2 : m ≤ 5000) (hw : ∀ x ∈ ws, x < 18446744073709551616) : Calls Try.prog 27 #[.pointer (some ⟨L.g, 0, none⟩), .agg #[.string (strOf (bytesL ws))]] wx fun e w' => e = .returned (.bool (possB R ws)) ∧ Below wx.heap.size wx w' := by
  obtain ⟨F, h1, h2, h3⟩ := hp.ex
  exact possible_any h1 ws m hm hm2 hw
theorem Two.r5poss (hp : Two w B L h T R wx) (ws : List Nat) (m : Nat) (a : Option Addr) (c : Nat) (hm : ws.length = m * 8) (hm2 : m ≤ 5000) (hc : m * 64 ≤ c) (hc2 : c ≤ 9223372036854775807) (hw : ∀ x ∈ ws, x < 18446744073709551616) (hr : Rd wx (.slice a (bytesL ws).length c) (bytesL ws).length (u8s (bytesL ws))) :
    Calls Try.prog 39 #[.pointer (some ⟨h, 0, none⟩), .slice a (bytesL ws).length c] wx fun e w' => e = .returned (.bool (possB R ws)) ∧ Below wx.heap.size wx w' := by
  obtain ⟨F, h1, h2, h3⟩ := hp.ex
  exact rposs_any h2 ws m a c hm hm2 hc hc2 hw hr
theorem Two.r5countZ (hp : Two w B L h T R wx) : Calls Try.prog 20 #[.pointer (some ⟨h, 0, none⟩)] wx fun e w' => e = .returned (.tuple #[.int .u64 (((cntV R).1 : Nat) : Int), .bool (cntV R).2]) ∧ Two w B L h T R w' ∧ Below wx.heap.size wx w' := by
  obtain ⟨F, h1, h2, h3⟩ := hp.ex
  exact (rcount_any h2).mono fun e w' ⟨he, hb⟩ => ⟨he, hp.below hb, hb⟩
/-- An image in a box: its words are well formed. -/
def ImgAt (w : World) (b : Nat) (ws : List Nat) (m : Nat) : Prop := Has w b [.string (strOf (bytesL ws))] 44 ∧ ws.length = m * 8 ∧ m ≤ 4096 ∧ ∀ x ∈ ws, x < 18446744073709551616
def KnowsAt (W0 : World) (L : Lay) (h : Nat) (R : Dv) (W : World) (bi : Nat) (wx : World) : Prop := ∃ ws m, ImgAt wx bi ws m ∧ Two W0 W0.heap.size L h 60 R wx
/-- The classes of worlds of a region that calls twice, makes a box and lays the image of the second call's result in it. -/
structure PartC (w4 : World) (v0 r : Value) (s1 : ByteArray) (H : Nat → Option Value) (w : World) : Prop where
  c0 : ∀ v, H 0 = some v → v = v0
  c1 : ∀ v, H 1 = some v → v = r
  c2 : ∀ v, H 2 = some v → ∃ b, v = .pointer (some ⟨b, 0, none⟩) ∧ w4.heap.size ≤ b ∧ Has w b [if (H 3).isSome = true then Value.string s1 else Value.string ⟨#[]⟩] 44
  c3 : ∀ v, H 3 = some v → v = undef
  c4 : (H 3).isSome = true → (H 2).isSome = true
  b : Below w4.heap.size w4 w
theorem PartC.call0 {w4 w w' : World} {v0 r : Value} {s1 : ByteArray} {H : Nat → Option Value} (h : PartC w4 v0 r s1 H w) (hb : Below w.heap.size w w') : PartC w4 v0 r s1 (setP H 0 v0) w' :=
  ⟨fun v hv => by cases hv; rfl, fun v hv => h.c1 v hv, fun v hv => by
    obtain ⟨b, h1, h2, h3⟩ := h.c2 v hv
    exact ⟨b, h1, h2, h3.only (Only.of_below hb) (Nat.not_le.2 h3.lt)⟩, fun v hv => h.c3 v hv, h.c4, Fr.step h.b hb⟩
theorem PartC.call1 {w4 w w' : World} {v0 r : Value} {s1 : ByteArray} {H : Nat → Option Value} (h : PartC w4 v0 r s1 H w) (hb : Below w.heap.size w w') : PartC w4 v0 r s1 (setP H 1 r) w' :=
  ⟨fun v hv => h.c0 v hv, fun v hv => by cases hv; rfl, fun v hv => by
    obtain ⟨b, h1, h2, h3⟩ := h.c2 v hv
    exact ⟨b, h1, h2, h3.only (Only.of_below hb) (Nat.not_le.2 h3.lt)⟩, fun v hv => h.c3 v hv, h.c4, Fr.step h.b hb⟩
theorem PartC.new {w4 w : World} {v0 r : Value} {s1 : ByteArray} {H : Nat → Option Value} (h : PartC w4 v0 r s1 H w) (h2 : H 2 = none) : PartC w4 v0 r s1 (setP H 2 (.pointer (some ⟨w.heap.size, 0, none⟩))) (w.alloc (.cells #[Value.string ⟨#[]⟩] 44)) := by
  have h3 : H 3 = none := by
    cases hh : H 3 with
    | none => rfl
    | some v => have := h.c4 (by rw [hh]; rfl); rw [h2] at this; cases this
  refine ⟨fun v hv => h.c0 v hv, fun v hv => h.c1 v hv, fun v hv => ?_, fun v hv => h.c3 v hv, fun _ => rfl, h.b.alloc h.b.size _⟩
  cases hv
  refine ⟨w.heap.size, rfl, h.b.size, ?_⟩
  have e : (setP H 2 (.pointer (some ⟨w.heap.size, 0, none⟩)) 3).isSome = false := by show (H 3).isSome = false; rw [h3]; rfl
  rw [if_neg (by rw [e]; decide)]
  exact Has.new w [Value.string ⟨#[]⟩] 44
theorem PartC.lay {w4 w : World} {v0 r : Value} {s1 : ByteArray} {H : Nat → Option Value} {b : Nat} (h : PartC w4 v0 r s1 H w) (h2 : H 2 = some (.pointer (some ⟨b, 0, none⟩))) : PartC w4 v0 r s1 (setP H 3 undef) (w.setCell ⟨b, 0, none⟩ (.string s1)) := by
  obtain ⟨b', g1, g2, g3⟩ := h.c2 _ h2
  cases g1
  refine ⟨fun v hv => h.c0 v hv, fun v hv => h.c1 v hv, fun v hv => ?_, fun v hv => by cases hv; rfl, fun _ => by show (H 2).isSome = true; rw [h2]; rfl, h.b.setCell (p := ⟨b, 0, none⟩) g2 _⟩
  have hv' : H 2 = some v := hv
  rw [h2] at hv'
  cases hv'
  exact ⟨b, rfl, g2, by
    have e : (setP H 3 undef 3).isSome = true := rfl
    rw [if_pos e]
    exact g3.set 0 (.string s1)⟩
theorem PartC.ex {w4 : World} {v0 r : Value} {s1 : ByteArray} (H : Nat → Option Value) (w : World) (h : PartC w4 v0 r s1 H w) (hn : ∃ s, s < 4 ∧ H s = none) : ∃ s v w', s < 4 ∧ H s = none ∧ PartC w4 v0 r s1 (setP H s v) w' := by
  cases h0 : H 0 with
  | none => exact ⟨0, v0, w, by omega, h0, h.call0 (Below.refl _ _)⟩
  | some x0 =>
    cases h1 : H 1 with
    | none => exact ⟨1, r, w, by omega, h1, h.call1 (Below.refl _ _)⟩
    | some x1 =>
      cases h2 : H 2 with
      | none => exact ⟨2, _, _, by omega, h2, h.new h2⟩
      | some x2 =>
        obtain ⟨b, rfl, _⟩ := h.c2 x2 h2
        cases h3 : H 3 with
        | none => exact ⟨3, _, _, by omega, h3, h.lay h2⟩
        | some x3 =>
          obtain ⟨s, hs, he⟩ := hn
          exfalso
          match s, hs with
          | 0, _ => rw [h0] at he; cases he
          | 1, _ => rw [h1] at he; cases he
          | 2, _ => rw [h2] at he; cases he
          | 3, _ => rw [h3] at he; cases he
theorem PartC.start (w4 : World) (v0 r : Value) (s1 : ByteArray) : PartC w4 v0 r s1 (fun _ => none) w4.drew :=
  ⟨fun v hv => (by cases hv), fun v hv => (by cases hv), fun v hv => (by cases hv), fun v hv => (by cases hv), fun h => (by cases h), Fr.drew (Below.refl _ _)⟩
theorem PartC.at {w4 : World} {v0 r : Value} {s1 : ByteArray} {Hf : Nat → Value} {nds : List Nat} {w : World} : clsP (PartC w4 v0 r s1) Hf nds w → Below w4.heap.size w4 w := fun ⟨_, _, _, h⟩ => h.b
/-- What the steps' values are, and the world behind them. -/
theorem PartC.done {w4 w : World} {v0 r : Value} {s1 : ByteArray} {Hf : Nat → Value} (h : PartC w4 v0 r s1 (fullP 4 Hf) w) : Hf 0 = v0 ∧ Hf 1 = r ∧ Hf 3 = undef ∧ ∃ b, Hf 2 = .pointer (some ⟨b, 0, none⟩) ∧ w4.heap.size ≤ b ∧ Has w b [.string s1] 44 ∧ Below w4.heap.size w4 w :=
  ⟨h.c0 _ rfl, h.c1 _ rfl, h.c3 _ rfl, by obtain ⟨b, h1, h2, h3⟩ := h.c2 _ rfl; exact ⟨b, h1, h2, h3, h.b⟩⟩
set_option maxHeartbeats 8000000 in
set_option maxRecDepth 100000 in
theorem knows_walk (W : World) (lines : Int) (a : Option Addr) (c : Nat) (xs : List Evt) (hr : RunIn W lines a c xs) (n : Nat) (hn : n < 18446744073709551616) (ch : Bool) (off v : Nat) (more : Int) (ho : off < 18446744073709551616) (hv : v < 18446744073709551616) (hmo : i64B more) :
    Calls Try.prog 11 #[.agg #[.int .i64 lines, .slice a xs.length c], .int .u64 (n : Int), .agg #[.bool ch, .int .u64 (off : Int), .int .u64 (v : Int), .int .i64 more]] W fun e w' => e = .returned (.bool true) ∧ Below W.heap.size W w' := by
  generalize hpost : (fun (e : Ending) w' => e = .returned (.bool true) ∧ Below W.heap.size W w') = post
  obtain ⟨W0, hW0⟩ : ∃ W0, W0 = (W.alloc (.cells #[.int .i64 lines, .slice a xs.length c] 54)).alloc (.cells #[.bool ch, .int .u64 (off : Int), .int .u64 (v : Int), .int .i64 more] 78) := ⟨_, rfl⟩
  have hb1 : Below W.heap.size W W0 := by rw [hW0]; exact ((Below.refl _ _).alloc (Nat.le_refl _) _).alloc (by simp) _
  have hSp : Has W0 (W.heap.size + 1) [.bool ch, .int .u64 (off : Int), .int .u64 (v : Int), .int .i64 more] 78 := by
    have := Has.new (W.alloc (.cells #[.int .i64 lines, .slice a xs.length c] 54)) [.bool ch, .int .u64 (off : Int), .int .u64 (v : Int), .int .i64 more] 78
    rw [World.size_alloc] at this
    rw [hW0]; exact this
  have hRn : Has W0 W.heap.size [.int .i64 lines, .slice a xs.length c] 54 := by rw [hW0]; exact (Has.new W [.int .i64 lines, .slice a xs.length c] 54).alloc _
  have hpl := play5_any hr hb1
  have hl6 := played_len lines (xs.take 30)
  generalize playP (newP (nLines lines)) (xs.take 30) = R at *
  have c0 := hRn.cell (o := 0) rfl
  have c1 := hRn.cell (o := 1) rfl
  rw [hW0] at c0 c1 hpl
  unfold i64B at hmo
  replace hpl := Lib.hid hpl
  replace hb1 := Lib.hid hb1
  replace hSp := Lib.hid hSp
  replace hW0 := Lib.hid hW0
  replace hpost := Lib.hid hpost
  clear hr hRn
  go_enter Try.func11, Try.ntmps11
  go_wp2_with fail
  refine hpl.out.mono ?_
  rw [← hW0.out]
  rintro e w1 ⟨L, h, rfl, t1⟩
  have hok := t1.ok
  have q1 := t1.r5countZ
  have hcf := cnt_few t1.ok hl6
  rw [hcf] at q1
  obtain ⟨cn, hcn⟩ : ∃ cn, cn = prodL R (dirtyL R) := ⟨_, rfl⟩
  have hpp := prodL_pos R (dirtyL R)
  have hfew := few t1.ok hl6
  rw [← hcn] at hpp hfew
  simp only [← hcn] at q1
  have hSp1 := hSp.out.only (Only.of_below t1.b) (Nat.not_le.2 hSp.out.lt)
  replace q1 := Lib.hid q1
  replace hcf := Lib.hid hcf
  replace hcn := Lib.hid hcn
  replace hSp1 := Lib.hid hSp1
  clear hpl c0 c1 t1 hSp
  go_wp2_with fail
  refine q1.out.mono ?_
  rintro e w2 ⟨rfl, t2, hB2⟩
  have hSp2 := hSp1.out.only (Only.of_below hB2) (Nat.not_le.2 hSp1.out.lt)
  have e0 : ((cn : Int) == 0) = false := beq_eq_false_iff_ne.2 (by omega)
  have e1 : ¬ (cn : Int) = 0 := by omega
  have e2 : (n : Int) % (cn : Int) = ((n % cn : Nat) : Int) := by simp
  have hml : n % cn < cn := Nat.mod_lt _ hpp
  obtain ⟨md, hmd⟩ : ∃ md, md = n % cn := ⟨_, rfl⟩
  rw [← hmd] at hml e2
  have e4 : 0 ≤ (n : Int) % (cn : Int) ∧ (n : Int) % (cn : Int) < 18446744073709551616 := by rw [e2]; omega
  have hat : atOk R md = true := by
    unfold atOk
    rw [rest_div, ← prod_rl, ← hcn.out, Nat.div_eq_of_lt hml]; rfl
  have q2 := t2.cat md (by omega)
  unfold AtPost at q2
  simp only [if_pos hat] at q2
  rw [← e2] at q2
  replace e2 := Lib.hid e2
  replace hmd := Lib.hid hmd
  replace hat := Lib.hid hat
  replace q2 := Lib.hid q2
  replace hSp2 := Lib.hid hSp2
  clear q1 hSp1 hB2
  go_wp2_with fail
  refine q2.out.mono ?_
  rintro e w3 ⟨rfl, hB3⟩
  have t3 := t2.below hB3
  have hSp3 := hSp2.out.only (Only.of_below hB3) (Nat.not_le.2 hSp2.out.lt)
  obtain ⟨w4, hw4⟩ : ∃ w4, w4 = w3.alloc (.cells #[.string (strOf (atB R md))] 44) := ⟨_, rfl⟩
  have hB4 : Below w3.heap.size w3 w4 := by rw [hw4]; exact (Below.refl _ _).alloc (Nat.le_refl _) _
  have hI4 : Has w4 w3.heap.size [.string (strOf (atB R md))] 44 := by rw [hw4]; exact Has.new w3 [.string (strOf (atB R md))] 44
  have t4 := t3.below hB4
  have hSp4 := hSp3.only (Only.of_below hB4) (Nat.not_le.2 hSp3.lt)
  have sp0 := hSp4.cell (o := 0) rfl
  have hK4 : KnowsAt W0 L h R W w3.heap.size w4 := ⟨_, R.lines.length, ⟨hI4, crashW_len hok _, hok.n2, crashW_lt hok _⟩, t4⟩
  have hIm4 : ∃ ws0, atB R md = bytesL ws0 ∧ ws0.length = R.lines.length * 8 ∧ ∀ x ∈ ws0, x < 18446744073709551616 := ⟨crashW R (kOf R (digR R (dirtyL R) md)), rfl, crashW_len hok _, crashW_lt hok _⟩
  obtain ⟨ws0, hw0e, hw0l, hw0t⟩ := hIm4
  rw [hw0e] at hI4 hw4 ⊢
  have hlI : w3.heap.size < w4.heap.size := hI4.lt
  have hSpl := Lib.hid hSp3.lt
  rw [hw4] at sp0
  have hLn : ∀ wx, Calls Try.prog 29 #[.agg #[.string (strOf (bytesL ws0))]] wx fun e w' => e = .returned (.int .i64 (R.lines.length : Int)) ∧ Below wx.heap.size wx w' := fun wx => by
    have h1 := ilines_any wx (bytesL ws0) (by rw [bytesL_len, hw0l]; have := hok.n2; omega)
    rw [show (bytesL ws0).length / 64 = R.lines.length by rw [bytesL_len, hw0l]; omega] at h1
    exact h1
  have hWi : ∀ (k : Nat) wx, k < 8 * R.lines.length → Calls Try.prog 37 #[.agg #[.string (strOf (bytesL ws0))], .int .u64 ((k * 8 : Nat) : Int), .int .u64 (v : Int)] wx (WithPost wx (setA ws0 (k * 8, v))) := fun k wx hk => with_any wx ws0 R.lines.length (k * 8) v hw0l (by have := hok.n2; omega) (by omega) (by omega) hv
  obtain ⟨s0, hs0⟩ : ∃ s0, s0 = strOf (bytesL ws0) := ⟨_, rfl⟩
  rw [← hs0] at hI4 sp0 hw4 hLn hWi ⊢
  have hI4' := Lib.hid hI4
  have t3' := Lib.hid t3
  have hB4' := Lib.hid hB4
  replace hs0 := Lib.hid hs0
  replace hLn := Lib.hid hLn
  replace hWi := Lib.hid hWi
  replace hw0e := Lib.hid hw0e
  replace hw4 := Lib.hid hw4
  replace hK4 := Lib.hid hK4
  replace hSp4 := Lib.hid hSp4
  clear q2 t2 t3 hB3 hSp3 hSp2 hB4 hI4
  go_upto_if 48 with fail
  rw [← hw4.out]
  rw [← hw4.out] at sp0
  go_cut [15] (fun _ wx => KnowsAt W0 L h R W w3.heap.size wx)
  case first =>
    cases ch with
    | false =>
      clear hSp4
      go_wp2_with fail
      go_meet
      exact hK4.out
    | true =>
      have hn1 := hok.n1
      obtain ⟨m0, hm0⟩ : ∃ m0, m0 = R.lines.length := ⟨_, rfl⟩
      rw [← hm0] at hn1 hl6
      obtain ⟨k, hk⟩ : ∃ k, k = off % (8 * m0) := ⟨_, rfl⟩
      have hk8 : k < 8 * m0 := by rw [hk]; exact Nat.mod_lt _ (by omega)
      have hLn4 := fun wx => hLn.out wx
      have hWi4 := fun wx => hWi.out k wx (by rw [← hm0]; exact hk8)
      rw [← hm0] at hLn4
      unfold WithPost at hWi4
      obtain ⟨ws1, hws1⟩ : ∃ ws1, ws1 = setA ws0 (k * 8, v) := ⟨_, rfl⟩
      rw [← hws1] at hWi4
      obtain ⟨s1, hs1⟩ : ∃ s1, s1 = strOf (bytesL ws1) := ⟨_, rfl⟩
      rw [← hs1] at hWi4
      rw [show ((k * 8 : Nat) : Int) = (k : Int) * 8 by omega] at hWi4
      have ek : (off : Int).tmod (8 * (m0 : Int)) = (k : Int) := by
        rw [Int.tmod_eq_emod_of_nonneg (by omega), hk]; simp
      have ew1 : IntKind.u64.wrap (8 * (m0 : Int)) = 8 * (m0 : Int) := IntWalk.u64_in _ (by omega)
      have ew3 : IntKind.u64.wrap ((k : Int) * 8) = (k : Int) * 8 := IntWalk.u64_in _ (by omega)
      have emx : (if (m0 : Int) < 1 then (1 : Int) else (m0 : Int)) = (m0 : Int) := if_neg (by omega)
      have emx2 : max (m0 : Int) 1 = (m0 : Int) := by omega
      have emx3 : (if (1 : Int) < (m0 : Int) then (m0 : Int) else 1) = (m0 : Int) := by
        by_cases h : (1 : Int) < (m0 : Int)
        · rw [if_pos h]
        · rw [if_neg h]; omega
      have ez : ((8 * (m0 : Int)) == 0) = false := beq_eq_false_iff_ne.2 (by omega)
      have ez2 : ¬ (8 * (m0 : Int) = 0) := by omega
      have hcell : ∀ wx, Below w4.heap.size w4 wx → wx.cell? ⟨w3.heap.size, 0, none⟩ = some (.string s0) ∧ wx.cell? ⟨W.heap.size + 1, 1, none⟩ = some (.int .u64 (off : Int)) ∧ wx.cell? ⟨W.heap.size + 1, 2, none⟩ = some (.int .u64 (v : Int)) ∧ wx.cell? ⟨W.heap.size + 1, 3, none⟩ = some (.int .i64 more) ∧ wx.frozen? ⟨w3.heap.size, 0, none⟩ = false := fun wx hb => by
        have h1 := hI4'.out.only (Only.of_below hb) (Nat.not_le.2 hI4'.out.lt)
        have h2 := hSp4.out.only (Only.of_below hb) (Nat.not_le.2 hSp4.out.lt)
        exact ⟨h1.cell (o := 0) rfl, h2.cell (o := 1) rfl, h2.cell (o := 2) rfl, h2.cell (o := 3) rfl, h1.free 0⟩
      replace hcell := Lib.hid hcell
      replace hLn4 := Lib.hid hLn4
      replace hWi4 := Lib.hid hWi4
      replace hk := Lib.hid hk
      replace hs1 := Lib.hid hs1
      replace hws1 := Lib.hid hws1
      replace hm0 := Lib.hid hm0
      clear hLn hWi
      go_wp2_with fail
      refine wp_region_part [4, 12, 16, 17] [[], [0], [], [1, 2]] [] (PartC w4 (.int .i64 (m0 : Int)) (.tuple #[.agg #[.string s1], .int .i64 0]) s1) (by kernel_rfl) (by kernel_rfl) (by kernel_rfl) (PartC.start _ _ _ _) PartC.ex (fun Hf hx => ?_)
      obtain ⟨w', hx⟩ := hx
      obtain ⟨v0e, v1e, v3e, b, v2e, _⟩ := hx.done
      refine part_chunk [] 4 0 _ _ (by kernel_rfl) (by kernel_rfl) (by decide) ?_
      simp only [List.take_succ_cons, List.take_zero, List.drop_succ_cons, List.drop_zero]
      go_big_quiet_want
      go_big_quiet_op
      refine ⟨.agg #[.string s0], fun wx hx => by simp [go_sem, (hcell.out wx (PartC.at hx)).1], ?_⟩
      go_big_quiet_on
      go_big_quiet_want
      go_big_quiet_op
      first | go_big_quiet_on | (refine ⟨_, fun _ _ => rfl, ?_⟩; go_big_quiet_on)
      go_big_quiet_want
      go_big_quiet_op
      refine ⟨.int .u64 (off : Int), fun wx hx => by simp [go_sem, (hcell.out wx (PartC.at hx)).2.1], ?_⟩
      go_big_quiet_on
      go_big_quiet_want
      go_big_quiet_op
      refine ⟨.agg #[.string s0], fun wx hx => by simp [go_sem, (hcell.out wx (PartC.at hx)).1], ?_⟩
      go_big_quiet_on
      refine wpQuiet_nil ?_
      refine part_step (s := 0) v0e (by go_simp; exact rfl) (by kernel_rfl) (by kernel_rfl) (fun H wx hs hn hp hc => ?_) ?_
      · refine callUpon_mk (f := 29) (args := #[.agg #[.string s0]]) (by simp [go_sem]) ?_
        exact (hLn4.out wx).mono fun e w'' ⟨he, h2⟩ => ⟨_, he, hc.call0 h2⟩
      refine part_chunk [] 7 _ _ _ (by kernel_rfl) (by kernel_rfl) (by decide) ?_
      simp only [List.take_succ_cons, List.take_zero, List.drop_succ_cons, List.drop_zero]
      iterate 6 (go_big_quiet_want; go_big_quiet_op; first | go_big_quiet_on | (refine ⟨_, fun _ _ => rfl, ?_⟩; go_big_quiet_on))
      go_big_quiet_want
      go_big_quiet_op
      refine ⟨.int .u64 (v : Int), fun wx hx => by simp [go_sem, (hcell.out wx (PartC.at hx)).2.2.1], ?_⟩
      go_big_quiet_on
      refine wpQuiet_nil ?_
      refine part_step (s := 1) v1e (by go_simp; exact rfl) (by kernel_rfl) (by kernel_rfl) (fun H wx hs hn hp hc => ?_) ?_
      · refine callUpon_mk (f := 37) (args := #[.agg #[.string s0], .int .u64 ((k : Int) * 8), .int .u64 (v : Int)]) (by simp [go_sem]) ?_
        exact (hWi4.out wx).mono fun e w'' ⟨he, h2⟩ => ⟨_, he, hc.call1 h2⟩
      refine part_chunk [] 3 _ _ _ (by kernel_rfl) (by kernel_rfl) (by decide) ?_
      simp only [List.take_succ_cons, List.take_zero, List.drop_succ_cons, List.drop_zero]
      iterate 3 (go_big_quiet_want; go_big_quiet_op; first | go_big_quiet_on | (refine ⟨_, fun _ _ => rfl, ?_⟩; go_big_quiet_on))
      refine wpQuiet_nil ?_
      refine part_step (s := 2) v2e (by go_simp; exact rfl) (by kernel_rfl) (by kernel_rfl) (fun H wx hs hn hp hc => ?_) ?_
      · exact callUpon_value (by simp [go_sem]) (hc.new hn)
      refine part_step (s := 3) v3e (by go_simp; exact rfl) (by kernel_rfl) (by kernel_rfl) (fun H wx hs hn hp hc => ?_) ?_
      · have h2 : H 2 = some (.pointer (some ⟨b, 0, none⟩)) := by
          obtain ⟨x, hx⟩ := Option.isSome_iff_exists.1 (hp 2 (by simp))
          rw [hx, ← v2e, hs 2 x hx]
        obtain ⟨b', g1, g2, g3⟩ := hc.c2 _ h2
        cases g1
        have g4 := g3.cell (o := 0) rfl
        have g5 := g3.free 0
        exact callUpon_skip (by simp [go_sem, g4, g5]) (hc.lay h2)
      refine part_chunk [] 1 _ _ _ (by kernel_rfl) (by kernel_rfl) (by decide) ?_
      simp only [List.take_succ_cons, List.take_zero, List.drop_succ_cons, List.drop_zero]
      iterate 1 (go_big_quiet_want; go_big_quiet_op; first | go_big_quiet_on | (refine ⟨_, fun _ _ => rfl, ?_⟩; go_big_quiet_on))
      refine wpQuiet_nil ?_
      intro wz hz
      obtain ⟨_, _, _, b2, e2b, hb2, hBx, hBz⟩ := hz.done
      rw [v2e] at e2b
      cases e2b
      have hB3z : Below w3.heap.size w3 wz := hB4'.out.trans (hBz.mono hB4'.out.size)
      have hIz := hI4'.out.only (Only.of_below hBz) (Nat.not_le.2 hI4'.out.lt)
      have hSz := hSp4.out.only (Only.of_below hBz) (Nat.not_le.2 hSp4.out.lt)
      have cx := hBx.cell (o := 0) rfl
      have ci := hIz.cell (o := 0) rfl
      have fi := hIz.free 0
      obtain ⟨w5, hw5⟩ : ∃ w5, w5 = wz.setCell ⟨w3.heap.size, 0, none⟩ (.string s1) := ⟨_, rfl⟩
      have hI5 : Has w5 w3.heap.size [.string s1] 44 := by rw [hw5]; exact hIz.set 0 (.string s1)
      have hS5 : Has w5 (W.heap.size + 1) [.bool true, .int .u64 (off : Int), .int .u64 (v : Int), .int .i64 more] 78 := by
        rw [hw5]
        exact hSz.set_ne (a := ⟨w3.heap.size, 0, none⟩) (by show W.heap.size + 1 ≠ w3.heap.size; have := hSpl.out; omega) _
      have hB35 : Below w3.heap.size w3 w5 := by rw [hw5]; exact hB3z.setCell (p := ⟨w3.heap.size, 0, none⟩) (Nat.le_refl _) _
      replace hI5 := Lib.hid hI5
      replace hS5 := Lib.hid hS5
      replace hB35 := Lib.hid hB35
      clear hz hBx hSz hB3z hIz hBz ek ew1 ew3 emx emx2 emx3 ez ez2 hcell hLn4 hWi4 v0e v1e v2e v3e hx
      simp only [Exit.then]
      replace hw5 := Lib.hid hw5
      have kk0 : ∃ kk : Int, kk = (m0 : Int) + max (min more 3) (-3) := ⟨_, rfl⟩
      obtain ⟨kk, hkk⟩ := kk0
      obtain ⟨mn, hmn⟩ : ∃ mn, mn = min more 3 := ⟨_, rfl⟩
      obtain ⟨mx, hmx⟩ : ∃ mx, mx = max mn (-3) := ⟨_, rfl⟩
      rw [← hmn, ← hmx] at hkk
      have hkb : -2 ≤ kk ∧ kk ≤ 9 := by omega
      have hlen1 : ws1.length = m0 * 8 := by rw [hws1.out]; simp [setA, hw0l, hm0.out]
      have hlt1 : ∀ x ∈ ws1, x < 18446744073709551616 := by
        rw [hws1.out]
        intro x hx
        unfold setA at hx
        rcases List.mem_or_eq_of_mem_set hx with h1 | h1
        · exact hw0t x h1
        · rw [h1]; exact hv
      have hLn5 : ∀ wx, Calls Try.prog 29 #[.agg #[.string s1]] wx fun e w' => e = .returned (.int .i64 (m0 : Int)) ∧ Below wx.heap.size wx w' := fun wx => by
        have h1 := ilines_any wx (bytesL ws1) (by rw [bytesL_len, hlen1]; omega)
        rw [show (bytesL ws1).length / 64 = m0 by rw [bytesL_len, hlen1]; omega, ← hs1.out] at h1
        exact h1
      have hRs : ∃ (s2 : ByteArray) (e2 : Int), (∀ wx, Calls Try.prog 38 #[.agg #[.string s1], .int .i64 kk] wx fun e w' => e = .returned (.tuple #[.agg #[.string s2], .int .i64 e2]) ∧ Below wx.heap.size wx w') ∧
          ((e2 = 0 ∧ ∃ ws m, s2 = strOf (bytesL ws) ∧ ws.length = m * 8 ∧ m ≤ 4096 ∧ ∀ x ∈ ws, x < 18446744073709551616) ∨ e2 = 1) := by
        by_cases hk0 : 0 ≤ kk
        · obtain ⟨kn, hkn⟩ : ∃ kn : Nat, kk = (kn : Int) := ⟨kk.toNat, by omega⟩
          refine ⟨strOf (bytesL (resW ws1 kn)), 0, fun wx => ?_, .inl ⟨rfl, resW ws1 kn, kn, rfl, resW_len _ _, by omega, resW_lt hlt1 kn⟩⟩
          rw [hs1.out, hkn]
          exact resize_any wx ws1 kn (by omega)
        · refine ⟨⟨#[]⟩, 1, fun wx => ?_, .inr rfl⟩
          rw [hs1.out]
          exact resize_no wx ws1 kk (by omega)
      obtain ⟨s2, ee, hRs, hRe⟩ := hRs
      have hk1 : KnowsAt W0 L h R W w3.heap.size w5 := ⟨ws1, m0, ⟨by rw [← hs1.out]; exact hI5.out, hlen1, by omega, hlt1⟩, t3'.out.below hB35.out⟩
      replace hk1 := Lib.hid hk1
      replace hlen1 := Lib.hid hlen1
      replace hRs := Lib.hid hRs
      replace hRe := Lib.hid hRe
      replace hLn5 := Lib.hid hLn5
      replace hkk := Lib.hid hkk
      replace hmn := Lib.hid hmn
      replace hmx := Lib.hid hmx
      clear hlt1
      go_wp2_with fail
      rw [← hw5.out]
      have f1 : (if (3 : Int) < more then (3 : Int) else more) = mn := by
        have := hmn.out
        by_cases h : (3 : Int) < more
        · rw [if_pos h]; omega
        · rw [if_neg h]; omega
      have f2 : min more 3 = mn := hmn.out.symm
      have f2' : (if more < (3 : Int) then more else (3 : Int)) = mn := by
        have := hmn.out
        by_cases h : more < (3 : Int)
        · rw [if_pos h]; omega
        · rw [if_neg h]; omega
      have f3 : (if mn < (-3 : Int) then (-3 : Int) else mn) = mx := by
        have := hmx.out
        by_cases h : mn < (-3 : Int)
        · rw [if_pos h]; omega
        · rw [if_neg h]; omega
      have f3' : (if (-3 : Int) < mn then mn else (-3 : Int)) = mx := by
        have := hmx.out
        by_cases h : (-3 : Int) < mn
        · rw [if_pos h]; omega
        · rw [if_neg h]; omega
      have f4 : max mn (-3) = mx := hmx.out.symm
      have f5 : IntKind.i64.wrap ((m0 : Int) + mx) = kk := by rw [← hkk.out]; exact IntWalk.i64_in _ (by omega)
      have hcell5 : ∀ wx, Below w5.heap.size w5 wx → wx.cell? ⟨w3.heap.size, 0, none⟩ = some (.string s1) ∧ wx.cell? ⟨W.heap.size + 1, 3, none⟩ = some (.int .i64 more) ∧ wx.frozen? ⟨w3.heap.size, 0, none⟩ = false := fun wx hb => by
        have h1 := hI5.out.only (Only.of_below hb) (Nat.not_le.2 hI5.out.lt)
        have h2 := hS5.out.only (Only.of_below hb) (Nat.not_le.2 hS5.out.lt)
        exact ⟨h1.cell (o := 0) rfl, h2.cell (o := 3) rfl, h1.free 0⟩
      replace hcell5 := Lib.hid hcell5
      clear cx ci fi
      refine wp_region_part [2, 8, 12, 13] [[], [0], [], [1, 2]] [] (PartC w5 (.int .i64 (m0 : Int)) (.tuple #[.agg #[.string s2], .int .i64 ee]) s2) (by kernel_rfl) (by kernel_rfl) (by kernel_rfl) (PartC.start _ _ _ _) PartC.ex (fun Hg hx => ?_)
      obtain ⟨w', hx⟩ := hx
      obtain ⟨v0e, v1e, v3e, b', v2e, _⟩ := hx.done
      refine part_chunk [] 2 0 _ _ (by kernel_rfl) (by kernel_rfl) (by decide) ?_
      simp only [List.take_succ_cons, List.take_zero, List.drop_succ_cons, List.drop_zero]
      iterate 2 (go_big_quiet_want; go_big_quiet_op; refine ⟨.agg #[.string s1], fun wx hx => by simp [go_sem, (hcell5.out wx (PartC.at hx)).1], ?_⟩; go_big_quiet_on)
      refine wpQuiet_nil ?_
      refine part_step (s := 0) v0e (by go_simp; exact rfl) (by kernel_rfl) (by kernel_rfl) (fun H wx hs hn hp hc => ?_) ?_
      · refine callUpon_mk (f := 29) (args := #[.agg #[.string s1]]) (by simp [go_sem]) ?_
        exact (hLn5.out wx).mono fun e w'' ⟨he, h2⟩ => ⟨_, he, hc.call0 h2⟩
      refine part_chunk [] 5 _ _ _ (by kernel_rfl) (by kernel_rfl) (by decide) ?_
      simp only [List.take_succ_cons, List.take_zero, List.drop_succ_cons, List.drop_zero]
      iterate 1 (go_big_quiet_want; go_big_quiet_op; first | go_big_quiet_on | (refine ⟨_, fun _ _ => rfl, ?_⟩; go_big_quiet_on))
      go_big_quiet_want
      go_big_quiet_op
      refine ⟨.int .i64 more, fun wx hx => by simp [go_sem, (hcell5.out wx (PartC.at hx)).2.1], ?_⟩
      go_big_quiet_on
      iterate 3 (go_big_quiet_want; go_big_quiet_op; first | go_big_quiet_on | (refine ⟨_, fun _ _ => rfl, ?_⟩; go_big_quiet_on))
      refine wpQuiet_nil ?_
      refine part_step (s := 1) v1e (by go_simp; exact rfl) (by kernel_rfl) (by kernel_rfl) (fun H wx hs hn hp hc => ?_) ?_
      · refine callUpon_mk (f := 38) (args := #[.agg #[.string s1], .int .i64 kk]) (by simp [go_sem]) ?_
        exact (hRs.out wx).mono fun e w'' ⟨he, h2⟩ => ⟨_, he, hc.call1 h2⟩
      refine part_chunk [] 3 _ _ _ (by kernel_rfl) (by kernel_rfl) (by decide) ?_
      simp only [List.take_succ_cons, List.take_zero, List.drop_succ_cons, List.drop_zero]
      iterate 3 (go_big_quiet_want; go_big_quiet_op; first | go_big_quiet_on | (refine ⟨_, fun _ _ => rfl, ?_⟩; go_big_quiet_on))
      refine wpQuiet_nil ?_
      refine part_step (s := 2) v2e (by go_simp; exact rfl) (by kernel_rfl) (by kernel_rfl) (fun H wx hs hn hp hc => ?_) ?_
      · exact callUpon_value (by simp [go_sem]) (hc.new hn)
      refine part_step (s := 3) v3e (by go_simp; exact rfl) (by kernel_rfl) (by kernel_rfl) (fun H wx hs hn hp hc => ?_) ?_
      · have h2 : H 2 = some (.pointer (some ⟨b', 0, none⟩)) := by
          obtain ⟨x, hx⟩ := Option.isSome_iff_exists.1 (hp 2 (by simp))
          rw [hx, ← v2e, hs 2 x hx]
        obtain ⟨b'', g1, g2, g3⟩ := hc.c2 _ h2
        cases g1
        have g4 := g3.cell (o := 0) rfl
        have g5 := g3.free 0
        exact callUpon_skip (by simp [go_sem, g4, g5]) (hc.lay h2)
      refine part_chunk [] 1 _ _ _ (by kernel_rfl) (by kernel_rfl) (by decide) ?_
      simp only [List.take_succ_cons, List.take_zero, List.drop_succ_cons, List.drop_zero]
      iterate 1 (go_big_quiet_want; go_big_quiet_op; first | go_big_quiet_on | (refine ⟨_, fun _ _ => rfl, ?_⟩; go_big_quiet_on))
      refine wpQuiet_nil ?_
      intro wy hy
      obtain ⟨_, _, _, b3, e3b, hb3, hBq, hBy⟩ := hy.done
      rw [v2e] at e3b
      cases e3b
      have hIy := hI5.out.only (Only.of_below hBy) (Nat.not_le.2 hI5.out.lt)
      have cx := hBq.cell (o := 0) rfl
      have ci := hIy.cell (o := 0) rfl
      have fi := hIy.free 0
      have hB3y : Below w3.heap.size w3 wy := hB35.out.trans (hBy.mono hB35.out.size)
      have hI6 := hIy.set 0 (.string s2)
      have hB6 := hB3y.setCell (p := ⟨w3.heap.size, 0, none⟩) (Nat.le_refl _) (.string s2)
      have hky : KnowsAt W0 L h R W w3.heap.size wy := ⟨ws1, m0, ⟨by rw [← hs1.out]; exact hIy, hlen1.out, by omega, by
        obtain ⟨ws, m, ⟨g1, g2, g3, g4⟩, _⟩ := hk1.out
        intro x hx
        rw [hws1.out] at hx
        unfold setA at hx
        rcases List.mem_or_eq_of_mem_set hx with h1 | h1
        · exact hw0t x h1
        · rw [h1]; exact hv⟩, t3'.out.below hB3y⟩
      replace hky := Lib.hid hky
      replace hI6 := Lib.hid hI6
      replace hB6 := Lib.hid hB6
      clear hy hBq hIy hB3y hBy f1 f2 f2' f3 f3' f4 f5 hcell5 hRs v0e v1e v2e v3e hx hLn5
      simp only [Exit.then]
      rcases hRe.out with ⟨rfl, ws, m, hs2, hlw, hmw, hltw⟩ | rfl
      · have hfin : KnowsAt W0 L h R W w3.heap.size (wy.setCell ⟨w3.heap.size, 0, none⟩ (.string s2)) := ⟨ws, m, ⟨by rw [← hs2]; exact hI6.out, hlw, hmw, hltw⟩, t3'.out.below hB6.out⟩
        replace hfin := Lib.hid hfin
        replace hs2 := Lib.hid hs2
        replace hlw := Lib.hid hlw
        clear hmw
        go_wp2_with fail
        go_meet
        exact hfin.out
      · go_wp2_with fail
        go_meet
        exact hky.out
  case rest =>
    obtain ⟨ws, m, ⟨hIm, hwl, hm, hwlt⟩, tc⟩ := hcut
    have hbl : (bytesL ws).length = m * 64 := by rw [bytesL_len]; omega
    have c12 := hIm.cell (o := 0) rfl
    have hby := ibytes_cap wc (bytesL ws) (bytesL_256 _) (by omega)
    unfold BytesRc at hby
    obtain ⟨xI, hxI⟩ : ∃ xI, xI = (idxV R ws).1 := ⟨_, rfl⟩
    obtain ⟨fI, hfI⟩ : ∃ fI, fI = (idxV R ws).2 := ⟨_, rfl⟩
    have hidx : fI = true → possB R ws = true ∧ xI = idxN R ws ∧ xI < 4611686018427387904 := fun hf => by
      rw [hfI] at hf
      rw [hxI]
      unfold idxV at hf ⊢
      split at hf
      · rename_i hh; rw [if_pos hh]; exact ⟨hh.1, rfl, hh.2⟩
      · cases hf
    have hx64 : xI < 18446744073709551616 := by
      rw [hxI]; unfold idxV; split
      · rename_i hh; show idxN R ws < _; omega
      · show 0 < _; omega
    have q3 := fun wx (hp : Two W0 W0.heap.size L h 60 R wx) b c h1 h2 h3 => hp.r5idx ws m (some ⟨b, 0, none⟩) c hwl (by omega) h1 h2 hwlt h3
    have q4 := fun wx (hp : Two W0 W0.heap.size L h 60 R wx) => hp.cidx ws m hwl (by omega) hwlt
    have q5 := fun wx (hp : Two W0 W0.heap.size L h 60 R wx) => hp.cposs ws m hwl (by omega) hwlt
    have q6 := fun wx (hp : Two W0 W0.heap.size L h 60 R wx) b c h1 h2 h3 => hp.r5poss ws m (some ⟨b, 0, none⟩) c hwl (by omega) h1 h2 hwlt h3
    have q7 := fun wx (hp : Two W0 W0.heap.size L h 60 R wx) => hp.cat xI hx64
    have hatI := fun hf => idx_at hok (hidx hf).1
    unfold IdxPost at q3 q4
    rw [← hxI, ← hfI] at q3 q4
    have hfin : ∀ wx, Two W0 W0.heap.size L h 60 R wx → post (.returned (.bool true)) wx := fun wx hp => by
      rw [← hpost.out]; exact ⟨rfl, hb1.out.trans (hp.b.mono hb1.out.size)⟩
    generalize hpb : possB R ws = pB at *
    rw [hbl] at hby q3 q6
    replace hpb := Lib.hid hpb
    replace q3 := Lib.hid q3
    replace q4 := Lib.hid q4
    replace q5 := Lib.hid q5
    replace q6 := Lib.hid q6
    replace q7 := Lib.hid q7
    replace hby := Lib.hid hby
    replace hfin := Lib.hid hfin
    replace hxI := Lib.hid hxI
    replace hfI := Lib.hid hfI
    replace hidx := Lib.hid hidx
    replace hatI := Lib.hid hatI
    replace hbl := Lib.hid hbl
    replace hwl := Lib.hid hwl
    replace hIm := Lib.hid hIm
    clear sp0 hSp4 hK4 hw4
    go_wp2_with fail
    refine hby.out.mono ?_
    rintro e w5 ⟨b, cap, rfl, hc1, hc2, hr5, hB5, _⟩
    have t5 := tc.below hB5
    have I5 := hIm.out.only (Only.of_below hB5) (Nat.not_le.2 hIm.out.lt)
    have q3' := q3.out w5 t5 b cap hc1 hc2 hr5
    have hr5' := Lib.hid hr5
    replace q3' := Lib.hid q3'
    replace I5 := Lib.hid I5
    clear c12 hby hB5 hr5
    go_wp2_with fail
    refine q3'.out.mono ?_
    rintro e w6 ⟨rfl, hB6⟩
    have t6 := t5.below hB6
    have I6 := I5.out.only (Only.of_below hB6) (Nat.not_le.2 I5.out.lt)
    have r6 := hr5'.out.kept hB6
    have c6 := I6.cell (o := 0) rfl
    have q4' := q4.out w6 t6
    replace q4' := Lib.hid q4'
    replace I6 := Lib.hid I6
    replace r6 := Lib.hid r6
    clear q3' I5 hB6 hr5' q3 q4 t5
    go_wp2_with fail
    refine q4'.out.mono ?_
    rintro e w7 ⟨rfl, hB7⟩
    have t7 := t6.below hB7
    have I7 := I6.out.only (Only.of_below hB7) (Nat.not_le.2 I6.out.lt)
    have r7 := r6.out.kept hB7
    have c7 := I7.cell (o := 0) rfl
    have q5' := q5.out w7 t7
    replace q5' := Lib.hid q5'
    replace I7 := Lib.hid I7
    replace r7 := Lib.hid r7
    clear q4' I6 hB7 r6 c6 q5 t6
    go_wp2_with fail
    refine q5'.out.mono ?_
    rintro e w8 ⟨rfl, hB8⟩
    have t8 := t7.below hB8
    have r8 := r7.out.kept hB8
    have q6' := q6.out w8 t8 b cap hc1 hc2 r8
    replace q6' := Lib.hid q6'
    replace r8 := Lib.hid r8
    clear q5' I7 hB8 r7 c7 q6 t7
    go_wp2_with fail
    refine q6'.out.mono ?_
    rintro e w9 ⟨rfl, hB9⟩
    have t9 := t8.below hB9
    have r9 := r8.out.kept hB9
    have q7' := q7.out w9 t9
    have hx9 := Lib.hid (hfin.out w9 t9)
    replace r9 := Lib.hid r9
    clear q6' r8 hB9 q7 t8
    have b1 : (pB == pB) = true := by simp
    have b2 : (pB != pB) = false := by simp
    have b3 : ((xI : Int) != (xI : Int)) = false := by simp
    have b4 : (fI != fI) = false := by simp
    cases hff : fI with
    | false =>
      rw [hff] at b4
      replace hff := Lib.hid hff
      clear q7'
      go_wp2_with fail
      exact hx9.out
    | true =>
      rw [hff] at b4
      have hd := hatI.out hff
      unfold AtPost at q7'
      have hxe := (hidx.out hff).2.1
      rw [← hxe] at hd
      simp only [if_pos hd.2, hd.1] at q7'
      replace hff := Lib.hid hff
      replace hxe := Lib.hid hxe
      replace hd := Lib.hid hd
      replace q7' := Lib.hid q7'
      go_wp2_with fail
      refine q7'.out.mono ?_
      rintro e w10 ⟨rfl, hB10⟩
      have hm1 : 0 < m := by
        have h1 := (hidx.out hff.out).1
        rw [← hpb.out] at h1
        unfold possB at h1
        rw [Bool.and_eq_true] at h1
        have h2 := of_decide_eq_true h1.1
        have := hok.n1
        rw [hwl.out] at h2; omega
      obtain ⟨w11, hw11⟩ : ∃ w11, w11 = w10.alloc (.cells #[.string (strOf (bytesL ws))] 44) := ⟨_, rfl⟩
      have hB11 : Below w10.heap.size w10 w11 := by rw [hw11]; exact (Below.refl _ _).alloc (Nat.le_refl _) _
      have hJ : Has w11 w10.heap.size [.string (strOf (bytesL ws))] 44 := by rw [hw11]; exact Has.new w10 [.string (strOf (bytesL ws))] 44
      have hB9 := hB10.trans (hB11.mono hB10.size)
      have sP : Str w11 (.slice (some ⟨b, 0, none⟩) (m * 64) cap) (strOf (bytesL ws)) := by
        have h1 := (r9.out.kept hB9)
        have h2 := Rd.str (bs := bytesL ws) (w := w11) (a := some ⟨b, 0, none⟩) (c := cap) (by rw [hbl.out]; exact h1) (bytesL_256 _) (by rw [hbl.out]; omega)
        rw [hbl.out] at h2
        exact h2
      have hBy : ∀ wx, Calls Try.prog 24 #[.agg #[.string (strOf (bytesL ws))]] wx (SPost wx (strOf (bytesL ws))) := fun wx => (ibytes_any wx (bytesL ws) (bytesL_256 _)).mono fun e w' h => h.s (bytesL_256 _) (by rw [hbl.out]; omega)
      have hI : ∀ wx, Below w11.heap.size w11 wx → wx.cell? ⟨w10.heap.size, 0, none⟩ = some (.string (strOf (bytesL ws))) := fun wx hB => (hJ.only (Only.of_below hB) (Nat.not_le.2 hJ.lt)).cell (o := 0) rfl
      have hE : ∀ wx, Below w11.heap.size w11 wx → post (.returned (.bool true)) wx := fun wx hB => hfin.out wx ((t9.below hB9).below hB)
      have kB : Below w11.heap.size w11 w11 := Below.refl _ _
      generalize strOf (bytesL ws) = st at *
      replace sP := Lib.hid sP
      replace hBy := Lib.hid hBy
      replace hI := Lib.hid hI
      replace hE := Lib.hid hE
      replace hw11 := Lib.hid hw11
      clear hJ hB9 hB11 hB10 hx9 t9 q7' r9 hfin
      go_wp2_with fail
      rw [← hw11.out]
      refine wp_region_call1 4 [5] (C0 := fun w' => w' = w11.drew) (C1 := fun v w' => Str w' v st ∧ Below w11.heap.size w11 w') (by kernel_rfl) (by kernel_rfl) (by decide) (by kernel_rfl) rfl (fun wx hx => ?_) (fun v hx => ?_)
      · obtain ⟨e, w', v, _, h1, h2⟩ := Calls.ex (hBy.out wx)
        exact ⟨v, w', h1, Fr.step (by rw [hx]; exact Fr.drew kB) h2⟩
      · have hbc : ∀ wx, clsAt (cls1 (fun w' => w' = w11.drew) (fun v w' => Str w' v st ∧ Below w11.heap.size w11 w')) [v] 0 wx → Below w11.heap.size w11 wx := fun wx hx => by
          rcases cls1_at0 hx with h | h
          · rw [h]; exact Fr.drew kB
          · exact h.2
        have cV : ∀ wx, clsAt (cls1 (fun w' => w' = w11.drew) (fun v w' => Str w' v st ∧ Below w11.heap.size w11 w')) [v] 1 wx → (convert 31 9 v).run Try.prog wx = .ok (.string st) wx := fun wx hx => (cls1_at1 hx).1 _ (Below.refl _ _)
        replace hbc := Lib.hid hbc
        replace cV := Lib.hid cV
        refine lex_chunk 0 3 _ _ _ (fun _ _ => Nat.zero_le _) (by kernel_rfl) (fun j hj => by unfold rk1; rw [if_neg (by omega)]) (by decide) ?_
        simp only [List.take_succ_cons, List.take_zero, List.drop_succ_cons, List.drop_zero]
        repeat (first | go_big_quiet_skip | (go_big_quiet_want; go_big_quiet_op; first | go_big_quiet_on | (refine ⟨_, fun _ _ => rfl, ?_⟩; go_big_quiet_on)))
        refine wpQuiet_nil ?_
        refine lex_chunk 0 1 _ _ _ (fun _ _ => Nat.zero_le _) (by kernel_rfl) (fun j hj => by unfold rk1; rw [if_neg (by omega)]) (by decide) ?_
        simp only [List.take_succ_cons, List.take_zero, List.drop_succ_cons, List.drop_zero]
        go_big_quiet_want
        go_big_quiet_op
        refine ⟨.agg #[.string st], fun wx hx => by simp [go_sem, hI.out wx (hbc.out wx hx)], ?_⟩
        go_big_quiet_on
        refine wpQuiet_nil ?_
        refine lex_call (r := 0) (v := v) rfl (by go_simp; exact rfl) rfl (by kernel_rfl) (fun wx hx => ?_) ?_
        · replace hx : wx = w11.drew := hx
          refine callUpon_mk (f := 24) (args := #[.agg #[.string st]]) (by simp [go_sem]) ?_
          exact (hBy.out wx).mono fun e w'' ⟨v', he, h1, h2⟩ => ⟨v', he, h1, Fr.step (by rw [hx]; exact Fr.drew kB) h2⟩
        refine lex_chunk 1 1 _ _ _ (fun j hj => by obtain rfl : j = 0 := by omega
                                                   decide) (by kernel_rfl) (fun j hj => by unfold rk1; rw [if_neg (by omega)]) (by decide) ?_
        simp only [List.take_succ_cons, List.take_zero, List.drop_succ_cons, List.drop_zero]
        go_big_quiet_want
        go_big_quiet_op
        refine ⟨.string st, fun wx hx => by rw [cV.out wx hx]; exact ⟨rfl, rfl⟩, ?_⟩
        go_big_quiet_on
        refine wpQuiet_nil ?_
        refine lex_chunk 0 1 _ _ _ (fun _ _ => Nat.zero_le _) (by kernel_rfl) (fun j hj => by unfold rk1; rw [if_neg (by omega)]) (by decide) ?_
        simp only [List.take_succ_cons, List.take_zero, List.drop_succ_cons, List.drop_zero]
        repeat (first | go_big_quiet_skip | (go_big_quiet_want; go_big_quiet_op; first | go_big_quiet_on | (refine ⟨_, fun _ _ => rfl, ?_⟩; go_big_quiet_on)))
        refine wpQuiet_nil ?_
        refine lex_chunk 0 1 _ _ _ (fun _ _ => Nat.zero_le _) (by kernel_rfl) (fun j hj => by unfold rk1; rw [if_neg (by omega)]) (by decide) ?_
        simp only [List.take_succ_cons, List.take_zero, List.drop_succ_cons, List.drop_zero]
        go_big_quiet_want
        go_big_quiet_op
        refine ⟨.string st, fun wx hx => by rw [sP.out wx (hbc.out wx hx)]; exact ⟨rfl, rfl⟩, ?_⟩
        go_big_quiet_on
        refine wpQuiet_nil ?_
        refine lex_chunk 0 3 _ _ _ (fun _ _ => Nat.zero_le _) (by kernel_rfl) (fun j hj => by unfold rk1; rw [if_neg (by omega)]) (by decide) ?_
        simp only [List.take_succ_cons, List.take_zero, List.drop_succ_cons, List.drop_zero]
        repeat (first | go_big_quiet_skip | (go_big_quiet_want; go_big_quiet_op; first | go_big_quiet_on | (refine ⟨_, fun _ _ => rfl, ?_⟩; go_big_quiet_on)))
        refine wpQuiet_nil ?_
        intro wz hz
        have hx := Lib.hid (hE.out wz hz.2)
        clear hz hbc cV hI hE hBy sP
        simp only [Exit.then]
        go_wp2_with fail
        exact hx.out
end Go.Proofs.Ytikjpklbbjmioaa
