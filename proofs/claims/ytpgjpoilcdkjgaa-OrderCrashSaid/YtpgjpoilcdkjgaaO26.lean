/- Of; the walk of OrderStores. -/
import Derived.Test.YtpgjpoilcdkjgaaO25
import Derived.StillTailTactics
namespace Go.Proofs.Ytpgjpoilcdkjgaa
open Go.RowKit

def OfPost (w : World) (line off val : Int) (e : Ending) (w' : World) : Prop := e = .returned (.tuple #[.int .i64 line, .agg #[.int .u64 off, .int .u64 val]]) ∧ Below w.heap.size w w'

set_option maxHeartbeats 4000000 in
set_option maxRecDepth 100000 in
theorem of_no (g : Nat) (G : Gr) (i : Int) (w : World) (h : GraphSt w g G) (hi : ¬ (0 ≤ i ∧ i < (G.ws.length : Int))) : Calls Try.prog 30 #[.pointer (some ⟨g, 0, none⟩), .int .i64 i] w (OfPost w (-1) 0 0) := by
  have hA : Below w.heap.size w (w.alloc (.cells #[.int .u64 0, .int .u64 0] 59)) := (Below.refl _ _).alloc (Nat.le_refl _) _
  have hh := has_at g G i false (decide_eq_false hi) _ (h.kept hA)
  replace hh := Lib.hid hh
  replace hi := Lib.hid hi
  go_enter Try.func30, Try.ntmps30
  go_wp2_with fail
  refine hh.out.mono ?_
  rintro e w1 ⟨rfl, rfl⟩
  clear hh
  go_wp2_with fail
  refine bodyPost_ret (v := .tuple #[.int .i64 (-1), .agg #[.int .u64 0, .int .u64 0]]) (by simp [results, Try.results30, go_sem]) rfl ?_
  exact ⟨rfl, hA⟩

set_option maxHeartbeats 4000000 in
set_option maxRecDepth 100000 in
theorem of_yes (g : Nat) (G : Gr) (i : Nat) (w : World) (h : GraphSt w g G) (hi : i < G.ws.length) :
    Calls Try.prog 30 #[.pointer (some ⟨g, 0, none⟩), .int .i64 i] w (OfPost w (G.line i : Nat) ((G.ws.getD i (0, 0)).1 : Nat) ((G.ws.getD i (0, 0)).2 : Nat)) := by
  have hA : Below w.heap.size w (w.alloc (.cells #[.int .u64 0, .int .u64 0] 59)) := (Below.refl _ _).alloc (Nat.le_refl _) _
  have hh := has_at g G i true (decide_eq_true (by omega)) _ (h.kept hA)
  have ok := h.ok
  obtain ⟨wa, wc, ra, rc, ca, ma, h1, h2, h3, h4, h5⟩ := h.ex
  obtain ⟨hl, ho⟩ := ok.line_lt hi
  obtain ⟨bw, ow, cw, e2, f2⟩ := h2.cells (by omega)
  simp only [Value.slice.injEq, true_and] at e2
  obtain ⟨rfl, rfl⟩ := e2
  have c1 := h1.cell (o := 1) rfl
  obtain ⟨hw0, hw1⟩ := wcells_get G.ws i _ (get_of_lt (0, 0) hi)
  have x0 := f2 _ _ hw0
  have x1 : w.cell? ⟨bw, ow + i * 2 + 1, none⟩ = _ := f2 _ _ hw1
  have hwl := ok.wl
  have hil : (i : Int) < G.ws.length := by omega
  have hi0 : (0 : Int) ≤ (i : Int) := by omega
  replace c1 := bcell hA c1
  replace x0 := bcell hA x0
  replace x1 := bcell hA x1
  have hline : G.line i = (G.ws.getD i (0, 0)).1 / 64 := rfl
  rw [hline]
  clear hline f2 hw0 hw1 h1 h2 h3 h4 h5 ok h hl
  generalize (G.ws.getD i (0, 0)).1 = off at *
  generalize (G.ws.getD i (0, 0)).2 = val at *
  have hlo := lineOf_q off
  replace hlo := Lib.hid (fun w => hlo w ho)
  replace hh := Lib.hid hh
  go_enter Try.func30, Try.ntmps30
  go_wp2_with fail
  refine hh.out.mono ?_
  rintro e w1 ⟨rfl, rfl⟩
  clear hh
  go_wp2_with fail
  refine region_tail 17 (by kernel_rfl) (by kernel_rfl) ?_
  simp only [List.take_succ_cons, List.take_zero, List.drop_succ_cons, List.drop_zero]
  repeat still_step
  still_call (hlo.out _)
  repeat still_step
  refine wpStill_nil ?_
  go_wp2_with fail
  refine bodyPost_ret (v := .tuple #[.int .i64 ((off / 64 : Nat) : Int), .agg #[.int .u64 (off : Int), .int .u64 (val : Int)]]) (by simp [results, Try.results30, go_sem]) rfl ?_
  refine ⟨rfl, ?_⟩
  first | exact below_drewN ((Below.refl _ _).alloc (Nat.le_refl _) _) 1 | exact (Below.refl _ _).alloc (Nat.le_refl _) _

def outs (n : Nat) : List Int := [-1, n, -9223372036854775808, 9223372036854775807]
theorem outs_out (n k : Nat) (hn : n ≤ 20000) : ¬ (0 ≤ (outs n).getD k 0 ∧ (outs n).getD k 0 < (n : Int)) ∨ 4 ≤ k := by
  match k with
  | 0 => left; simp [outs]
  | 1 => left; simp [outs]
  | 2 => left; simp [outs]
  | 3 => left; simp [outs]; omega
  | k + 4 => right; omega

set_option maxHeartbeats 8000000 in
set_option maxRecDepth 100000 in
theorem stores_walk (acs : List Ac) (hf : ∀ a ∈ acs, a.Fit) (aa : Option Addr) (cap : Nat) (w : World) (hr : Rd w (.slice aa acs.length cap) acs.length (acCells acs)) (hll : acs.length ≤ 9223372036854775807) :
    Calls Try.prog 7 #[.slice aa acs.length cap] w (BoolPost w true) := by
  go_enter Try.func7, Try.ntmps7
  go_wp2_with fail
  refine (awake_any w).mono ?_
  rintro e w1 ⟨rfl, hB1⟩
  have hev := events_any acs hf aa cap 40 (by omega) w1 (hr.kept hB1) hll
  have hel := evs_len acs 40
  have heg := evs_good acs hf 40
  generalize evs (acs.take 40) = es at *
  replace hev := Lib.hid hev
  go_wp2_with fail
  refine hev.out.mono ?_
  rintro e w2 ⟨oa, oc, sa, sc, rfl, hRo, hRs, hB2⟩
  have hBa := hB1.trans (hB2.mono hB1.size)
  have hnew := new_ok 4 es oa oc w2 (by omega) (by omega) (by omega) hRo heg
  replace hnew := Lib.hid hnew
  clear hev hB1 hB2 hr
  go_wp2_with fail
  refine hnew.out.mono ?_
  rintro e w3 ⟨g, rfl, hG, hB3⟩
  have st := start es (by omega) heg hG
  obtain ⟨hlen, hL⟩ := LawSt.mk' (by omega) heg hG (hRs.kept hB3) (hBa.trans (hB3.mono hBa.size))
  rw [hlen]
  replace hlen := Lib.hid hlen
  have hok := st.ok
  have hn4 := st.n
  clear st
  generalize (runP 4 es).G = G at *
  have hwl := hok.wl
  have hli := lines_any g G w3 hL.g
  rw [hn4] at hli
  have hst := stores_any g G w3 hL.g
  replace hn4 := Lib.hid hn4
  replace hli := Lib.hid hli
  replace hst := Lib.hid hst
  clear hnew hB3 hBa hRo hRs hG
  go_wp2_with fail
  refine hli.out.mono ?_
  rintro e w4 ⟨rfl, rfl⟩
  go_wp2_with fail
  refine hst.out.mono ?_
  rintro e w4 ⟨rfl, rfl⟩
  clear hli hst
  go_wp2_with fail
  go_loopw [43] (fun i wr => ∃ k : Nat, k ≤ G.ws.length ∧ i = .int .i64 k ∧ LawSt w g G sa sc wr) (fun i _ => G.ws.length - (intOf i).toNat)
  case atStart => exact ⟨0, by omega, rfl, hL⟩
  case round =>
    clear hL
    obtain ⟨k, hk, rfl, hLk⟩ := hrel
    by_cases hlt : k < G.ws.length
    · have hkI : (k : Int) < G.ws.length := by omega
      obtain ⟨bl, ol, c, e1, f⟩ := hLk.s.cells (by omega)
      simp only [Value.slice.injEq, true_and] at e1
      obtain ⟨rfl, hc⟩ := e1
      replace hc := Lib.hid hc
      have hat := stf_get G k hlt
      have c0 : wr.cell? ⟨bl, ol + k * 4, none⟩ = _ := f _ _ (sCells_get _ k _ hat 0 _ rfl)
      have c1 : wr.cell? ⟨bl, ol + k * 4 + 1, none⟩ = _ := f _ _ (sCells_get _ k _ hat 1 _ rfl)
      have c2 : wr.cell? ⟨bl, ol + k * 4 + 2, none⟩ = _ := f _ _ (sCells_get _ k _ hat 2 _ rfl)
      have c3 : wr.cell? ⟨bl, ol + k * 4 + 3, none⟩ = _ := f _ _ (sCells_get _ k _ hat 3 _ rfl)
      simp only at c0 c1 c2 c3
      have hof := fun w h => of_yes g G k w h hlt
      have hLA := hLk.below ((Below.refl wr.heap.size wr).alloc (Nat.le_refl _) (.cells #[.int .i64 ((G.line k : Nat) : Int), .int .u64 ((G.ws.getD k (0, 0)).1 : Int), .int .u64 ((G.ws.getD k (0, 0)).2 : Int), .bool (G.must k)] 57))
      have hN := Has.new wr [.int .i64 ((G.line k : Nat) : Int), .int .u64 ((G.ws.getD k (0, 0)).1 : Int), .int .u64 ((G.ws.getD k (0, 0)).2 : Int), .bool (G.must k)] 57
      generalize G.line k = ln at *
      generalize G.must k = mu at *
      generalize (G.ws.getD k (0, 0)).1 = off at *
      generalize (G.ws.getD k (0, 0)).2 = val at *
      replace hof := Lib.hid hof
      replace hat := Lib.hid hat
      clear f hLk
      go_wp2_with fail
      refine (hof.out _ hLA.g).mono ?_
      rintro e w5 ⟨rfl, hB5⟩
      have hN5 := hN.only (Only.of_below hB5) (by simp)
      have x0 := (hN5.alloc (.cells #[.int .u64 (off : Int), .int .u64 (val : Int)] 59)).cell (o := 0) rfl
      have x1 := (hN5.alloc (.cells #[.int .u64 (off : Int), .int .u64 (val : Int)] 59)).cell (o := 1) rfl
      have x2 := (hN5.alloc (.cells #[.int .u64 (off : Int), .int .u64 (val : Int)] 59)).cell (o := 2) rfl
      have hlw := hB5.size
      simp only [World.size_alloc] at hlw
      have hL5 := hLA.below hB5
      have hL6 := hL5.below ((Below.refl w5.heap.size w5).alloc (Nat.le_refl _) (.cells #[.int .u64 (off : Int), .int .u64 (val : Int)] 59))
      clear hN hN5 hB5 hLA hL5 c0 c1 c2 c3 hof
      go_wp2_with fail
      go_roundw
      case rel => exact ⟨k + 1, by omega, by go_num, hL6⟩
      case measure => simp [intOf]; omega
    · obtain rfl : k = G.ws.length := by omega
      have hL7 := hLk.below ((Below.refl wr.heap.size wr).alloc (Nat.le_refl _) (.cells #[.int .i64 (-1), .int .i64 (G.ws.length : Int), .int .i64 (-9223372036854775808), .int .i64 9223372036854775807] 3))
      have hN7 : Has (wr.alloc (.cells #[.int .i64 (-1), .int .i64 (G.ws.length : Int), .int .i64 (-9223372036854775808), .int .i64 9223372036854775807] 3)) wr.heap.size ((outs G.ws.length).map (.int .i64)) 3 := Has.new wr ((outs G.ws.length).map (.int .i64)) 3
      have hzl : wr.heap.size + 1 ≤ (wr.alloc (.cells #[.int .i64 (-1), .int .i64 (G.ws.length : Int), .int .i64 (-9223372036854775808), .int .i64 9223372036854775807] 3)).heap.size := by simp
      replace hL7 := Lib.hid hL7
      replace hN7 := Lib.hid hN7
      have hoo := fun k => outs_out G.ws.length k hwl
      have hol : (outs G.ws.length).length = 4 := rfl
      replace hoo := Lib.hid hoo
      replace hol := Lib.hid hol
      clear hLk
      go_wp2_with fail
      have hLs := hL7.out
      have hNs := hN7.out
      generalize outs G.ws.length = zs at *
      generalize wr.alloc (.cells #[.int .i64 (-1), .int .i64 (G.ws.length : Int), .int .i64 (-9223372036854775808), .int .i64 9223372036854775807] 3) = w7 at *
      generalize wr.heap.size = bz at *
      clear hL7 hN7
      go_loopw [77] (fun i wr => ∃ k : Nat, k ≤ 4 ∧ i = .int .i64 k ∧ LawSt w g G sa sc wr ∧ Has wr bz (zs.map (.int .i64)) 3) (fun i _ => 4 - (intOf i).toNat)
      case atStart => exact ⟨0, by omega, rfl, hLs, hNs⟩
      case round =>
        clear hLs hNs
        obtain ⟨k, hk4, rfl, hLk, hNk⟩ := hrel
        by_cases hlt : k < 4
        · have hkI : (k : Int) < 4 := by omega
          have hcell := hNk.cell (ints_get zs .i64 k (by rw [hol.out]; exact hlt))
          have hno := (hoo.out k).resolve_right (by omega)
          generalize zs.getD k 0 = z at *
          have hof := of_no g G z wr hLk.g hno
          replace hof := Lib.hid hof
          replace hno := Lib.hid hno
          go_wp2_with fail
          refine hof.out.mono ?_
          rintro e w8 ⟨rfl, hB8⟩
          have hL8 := hLk.below hB8
          have hL9 := hL8.below ((Below.refl w8.heap.size w8).alloc (Nat.le_refl _) (.cells #[.int .u64 0, .int .u64 0] 59))
          have hN9 := (hNk.only (Only.of_below hB8) (by have := hNk.lt; omega)).alloc (.cells #[.int .u64 0, .int .u64 0] 59)
          clear hof hLk hNk hcell hB8 hL8
          go_wp2_with fail
          go_roundw
          case rel => exact ⟨k + 1, by omega, by go_num, hL9, hN9⟩
          case measure => simp [intOf]; omega
        · obtain rfl : k = 4 := by omega
          have hbf := hLk.b
          clear hLk hNk
          go_wp2_with fail
          have hpost : BoolPost w true (.returned (.bool true)) wr := ⟨rfl, hbf⟩
          first | exact hpost | (go_ret; exact ⟨rfl, hbf⟩)
end Go.Proofs.Ytpgjpoilcdkjgaa
