/- The walk of SchedNil, its end. -/
import Derived.Test.YtdminbjenbbpaaaW7
namespace Go.Proofs.Ytdminbjenbbpaaa
open Go.RowKit

set_option maxHeartbeats 2000000 in
theorem nil_long (a1 : Option Addr) (len1 cap1 : Nat) (bound n : Int) (w : World) (h : 100 < len1) :
    Calls Try.prog 7 #[.slice a1 len1 cap1, .int .i64 bound, .int .u8 n] w fun e w' => e = .returned (.bool true) ∧ Below w.heap.size w w' := by
  have hh : (100 : Int) < len1 := by omega
  go_enter Try.func7, Try.ntmps7
  go_wp2_with fail
  refine (awake_any w).mono ?_
  rintro e w1 ⟨rfl, hB1⟩
  go_wp2_with fail
  refine (awake_any w1).mono ?_
  rintro e w2 ⟨rfl, hB2⟩
  go_wp2_with fail
  go_ret
  exact ⟨rfl, hB1.trans (hB2.mono hB1.size)⟩

set_option maxRecDepth 100000 in
set_option maxHeartbeats 4000000 in
theorem nil_short (a1 : Option Addr) (cap1 : Nat) (ps : List Int) (bound n : Int) (k : Nat) (w : World) (hp : Rd w (.slice a1 ps.length cap1) ps.length (ps.map (.int .i64)))
    (hpb : ∀ p ∈ ps, -9223372036854775808 ≤ p ∧ p ≤ 9223372036854775807) (h : ps.length ≤ 100) (hbd : -9223372036854775808 ≤ bound ∧ bound ≤ 9223372036854775807) (hn : 0 ≤ n ∧ n ≤ 255) (hk : 1 + n % 5 = k) :
    Calls Try.prog 7 #[.slice a1 ps.length cap1, .int .i64 bound, .int .u8 n] w fun e w' => e = .returned (.bool true) ∧ Below w.heap.size w w' := by
  have hh : ¬ (100 : Int) < ps.length := by omega
  have hk1 : 1 ≤ k := by omega
  have hk5 : k ≤ 5 := by omega
  go_enter Try.func7, Try.ntmps7
  go_wp2_with fail
  refine (awake_any w).mono ?_
  rintro e w1 ⟨rfl, hB1⟩
  have hp1 := hp.kept hB1
  go_wp2_with fail
  refine (run_none w1 a1 cap1 ps hp1 (by omega) hpb).mono ?_
  rintro e w2 ⟨sa, sc, ea, ec, rfl, hB2⟩
  have A2 := Has.new w2 [.slice sa 0 sc, .slice ea 0 ec] 27
  have hBa := (hB1.trans (hB2.mono hB1.size))
  have hBb := hBa.alloc hBa.size (.cells #[.slice sa 0 sc, .slice ea 0 ec] 27)
  clear hB1 hB2 hp1 hBa
  go_wp2_with fail
  refine (round_none _ bound hbd).mono ?_
  rintro e w3 ⟨sb, sbc, eb, ebc, rfl, hB3⟩
  have hsz3 := hB3.size
  simp only [World.size_alloc] at hsz3
  have A3 := A2.only (Only.of_below hB3) (by simp)
  have B3 := Has.new w3 [.slice sb 0 sbc, .slice eb 0 ebc] 27
  have A4 := A3.alloc (.cells #[.slice sb 0 sbc, .slice eb 0 ebc] 27)
  have hBc := (hBb.trans (hB3.mono hBb.size)).alloc (by have := (hBb.trans (hB3.mono hBb.size)).size; omega) (.cells #[.slice sb 0 sbc, .slice eb 0 ebc] 27)
  clear A2 A3 hB3 hBb
  have hsz4 := hBc.size
  have hA4 := A4.lt
  have hB3lt := B3.lt
  go_wp2_with fail
  replace hk := Lib.hid hk
  have hmax : max (k : Int) 1 = k := by omega
  refine (of_any k _).mono ?_
  rw [hmax]
  generalize w3.alloc (.cells #[.slice sb 0 sbc, .slice eb 0 ebc] 27) = w4 at *
  rintro e w5 ⟨rfl, rfl⟩
  clear hmax
  have M5 := (Has.new w4 [.int .i64 k] 84).alloc (.cells #[.nilIface, .iface 46 (.pointer (some ⟨w4.heap.size, 0, none⟩))] 86)
  have R5 := Rd.of_has (Has.new (w4.alloc (.cells [.int .i64 k].toArray 84)) [.nilIface, .iface 46 (.pointer (some ⟨w4.heap.size, 0, none⟩))] 86) 2 2
  have A5 := (A4.alloc (.cells #[.int .i64 k] 84)).alloc (.cells #[.nilIface, .iface 46 (.pointer (some ⟨w4.heap.size, 0, none⟩))] 86)
  have C5 := (B3.alloc (.cells #[.int .i64 k] 84)).alloc (.cells #[.nilIface, .iface 46 (.pointer (some ⟨w4.heap.size, 0, none⟩))] 86)
  have hBd := (hBc.alloc hsz4 (.cells #[.int .i64 k] 84)).alloc (by simp; omega) (.cells #[.nilIface, .iface 46 (.pointer (some ⟨w4.heap.size, 0, none⟩))] 86)
  have hrt := round_two w4.heap.size _ w4.heap.size k (some ⟨w4.heap.size + 1, 0, none⟩) M5 (by simpa [mval] using R5) (fun j hj => by simp [Value.ownBlock] at hj; simp; omega) (Nat.le_refl _) hk1 hk5
  replace hrt := Lib.hid hrt
  clear M5 R5 A4 hBc
  go_wp2_with fail
  refine hrt.out.mono ?_
  rintro e w7 ⟨sd, sdc, ed, edc, rfl, hE, hB7⟩
  have A7 := A5.only (Only.of_below hB7) (by omega)
  have C7 := C5.only (Only.of_below hB7) (by omega)
  have hBe := hBd.trans (hB7.mono hsz4)
  have hsz7 := hB7.size
  simp only [World.size_alloc] at hsz7
  have W8 : Below w7.heap.size w7 (w7.alloc (.cells #[.slice sd k sdc, .slice ed 2 edc] 27)) := (Below.refl _ _).alloc (Nat.le_refl _) _
  have D8 := Has.new w7 [.slice sd k sdc, .slice ed 2 edc] 27
  have A8 := A7.alloc (.cells #[.slice sd k sdc, .slice ed 2 edc] 27)
  have C8 := C7.alloc (.cells #[.slice sd k sdc, .slice ed 2 edc] 27)
  have E8 := hE.kept W8
  have hBf := hBe.trans (W8.mono hBe.size)
  clear A5 A7 C5 C7 hBd hBe hB7 hrt hE W8
  have x0 := A8.cell (o := 0) rfl
  have x1 := A8.cell (o := 1) rfl
  have y0 := C8.cell (o := 0) rfl
  have y1 := C8.cell (o := 1) rfl
  have z0 := D8.cell (o := 0) rfl
  have z1 := D8.cell (o := 1) rfl
  have hz8 := D8.lt
  have W9 : Below (w7.alloc (.cells #[.slice sd k sdc, .slice ed 2 edc] 27)).heap.size (w7.alloc (.cells #[.slice sd k sdc, .slice ed 2 edc] 27)) ((w7.alloc (.cells #[.slice sd k sdc, .slice ed 2 edc] 27)).alloc (.cells #[.int .i64 (-1), .int .i64 ((k : Int) - 1)] 3)) := (Below.refl _ _).alloc (Nat.le_refl _) _
  have R9 := Rd.of_has (Has.new (w7.alloc (.cells #[.slice sd k sdc, .slice ed 2 edc] 27)) [.int .i64 (-1), .int .i64 ((k : Int) - 1)] 3) 2 2
  have E9 := E8.kept W9
  have hBg := hBf.trans (W9.mono hBf.size)
  have S1 := Lib.hid (same_true (.slice ed 2 edc) (.slice (some ⟨w7.heap.size + 1, 0, none⟩) 2 2) [-1, (k : Int) - 1] _ E9 (by simpa using R9) (by simp))
  have t0 := (D8.alloc (.cells #[.int .i64 (-1), .int .i64 ((k : Int) - 1)] 3)).cell (o := 0) rfl
  have hkk : ((k : Int) == (k : Int)) = true := by simp
  clear A8 C8 D8 E8 E9 W9 R9 hBf
  go_wp2_with fail
  refine S1.out.mono ?_
  rintro e w9 ⟨rfl, m1, rfl⟩
  go_wp2_with (first | (go_at_call 23; refine (finish_nil bound _).mono ?_; rintro e w' ⟨rfl, rfl⟩) | (go_at_call 24; refine (step_nil _).mono ?_; rintro e w' ⟨rfl, rfl⟩) | (go_at_call 22; refine (left_nil _).mono ?_; rintro e w' ⟨rfl, rfl⟩))
  go_ret
  exact ⟨rfl, below_drewN hBg _⟩

theorem nil_walk (a0 : Option Addr) (len0 cap0 : Nat) (z0 : List Int) (a1 : Int) (a2 : Int) (w : World) (w0 : IsRow .i64 w a0 len0 cap0 z0) (w1 : (Lit.int .i64 a1).wf = true) (w2 : (Lit.int .u8 a2).wf = true) :
    Calls Try.prog 7 #[.slice a0 len0 cap0, .int .i64 a1, .int .u8 a2] w fun e w' => e = .returned (.bool true) ∧ Below w.heap.size w w' := by
  by_cases h : 100 < len0
  · exact nil_long a0 len0 cap0 a1 a2 w h
  · obtain ⟨ys0, rfl, _, r0, b0, l0⟩ := w0.rd
    have hn := bounds_u8 w2
    obtain ⟨q, hq⟩ := Int.eq_ofNat_of_zero_le (show 0 ≤ 1 + a2 % 5 by omega)
    exact nil_short a0 cap0 ys0 a1 a2 q w r0 (fun p hp => bounds_i64 (b0 p hp)) (by omega) (bounds_i64 w1) hn hq
end Go.Proofs.Ytdminbjenbbpaaa
