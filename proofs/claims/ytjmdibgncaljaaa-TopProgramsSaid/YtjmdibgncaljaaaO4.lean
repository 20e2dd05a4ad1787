/- The walk of Closed. -/
import Derived.Test.YtjmdibgncaljaaaO3
namespace Go.Proofs.Ytjmdibgncaljaaa
open Go.RowKit

/-- What a block that there was holds, it holds still. -/
theorem bcell {w w' : World} {a : Addr} {v : Value} (hB : Below w.heap.size w w') (hv : w.cell? a = some v) : w'.cell? a = some v :=
  (hB.cell (p := a) (by simpa using World.block_lt_of_cell? _ _ hv)).trans hv
theorem mem_set_le {l : List Nat} {i v k : Nat} (h : ∀ t ∈ l, t ≤ k) (hv : v ≤ k + 1) : ∀ t ∈ l.set i v, t ≤ k + 1 := by
  intro t ht
  rcases List.mem_or_eq_of_mem_set ht with h1 | h1
  · have := h t h1; omega
  · omega
def BoolPost (w : World) (b : Bool) (e : Ending) (w' : World) : Prop := e = .returned (.bool b) ∧ Below w.heap.size w w'

set_option maxHeartbeats 4000000 in
set_option maxRecDepth 100000 in
theorem closed_any (g : Nat) (G : Gr) (va : Value) (set : List Int) (w : World) (h : GraphSt w g G) (hs : Rd w va set.length (set.map (.int .i64))) (hsl : set.length ≤ 9223372036854775807) :
    Calls Try.prog 56 #[.pointer (some ⟨g, 0, none⟩), va] w (BoolPost w (closedP G set)) := by
  have _hsl := hsl
  obtain ⟨a, ca, rfl, hv⟩ := hs
  have ok := h.ok
  have hn2 := ok.n2
  have hwl := ok.wl
  have hn1 := ok.n1
  obtain ⟨wa, wc, ra, rc, caa, ma, h1, h2, h3, h4, h5⟩ := h.ex
  have c1 := h1.cell (o := 1) rfl
  by_cases hlen : set.length ≤ G.ws.length
  · have hd : decide ((set.length : Int) > (G.ws.length : Int)) = false := decide_eq_false (by omega)
    have hd2 : decide ((G.ws.length : Int) < (set.length : Int)) = false := decide_eq_false (by omega)
    have hd3 : decide (G.ws.length < set.length) = false := decide_eq_false (by omega)
    have hres : closedP G set = match markAll G set (mark0 G) with | none => false | some s => tail1 G s G.ws.length && tail2 G s G.n := by unfold closedP; rw [decide_eq_true hlen]; rfl
    generalize hpost : BoolPost w (closedP G set) = post
    have hfalse : markAll G set (mark0 G) = none → ∀ w', Below w.heap.size w w' → post (.returned (.bool false)) w' := by
      intro hm w' hw'
      rw [← hpost]; refine ⟨?_, hw'⟩; rw [hres, hm]
    have hend : ∀ s b, markAll G set (mark0 G) = some s → (tail1 G s G.ws.length && tail2 G s G.n) = b → ∀ w', Below w.heap.size w w' → post (.returned (.bool b)) w' := by
      intro s b hm hb w' hw'
      rw [← hpost]; refine ⟨?_, hw'⟩; rw [hres, hm, ← hb]
    replace hfalse := Lib.hid hfalse
    replace hend := Lib.hid hend
    clear hpost hres
    have c0 := ((h1.alloc (.cells (Array.replicate G.ws.length (.bool false)) 4))).cell (o := 0) rfl
    have hm1 := make1 131 4 (.bool false) 1 Try.underlying131 info4 rfl G.ws.length (by omega) (by omega) w
    have hm2 := make1 49 3 (.int .i64 0) 8 Try.underlying49 info3 rfl G.n (by omega) (by omega) (w.alloc (.cells (Array.replicate G.ws.length (.bool false)) 4))
    have hlenI : (set.length : Int) ≤ (G.ws.length : Int) := by omega
    replace hlen := Lib.hid hlen
    go_enter Try.func56, Try.ntmps56
    go_wp2_with fail
    go_loopw [38] (fun i wr => ∃ (k : Nat) (s : Mk), k ≤ set.length ∧ i = .int .i64 k ∧ MkSt wr w.heap.size (w.heap.size + 1) G k s ∧ Hid (markAll G (set.take k) (mark0 G) = some s) ∧ Below w.heap.size w wr) (fun i _ => set.length - (intOf i).toNat)
    case atStart =>
      refine ⟨0, mark0 G, Nat.zero_le _, rfl, ⟨?_, ?_, by simp [mark0], by simp [mark0], by simp [mark0]⟩, rfl, ((Below.refl _ _).alloc (Nat.le_refl _) _).alloc (by simp) _⟩
      · show Has _ _ ((List.replicate _ _).map _) _
        rw [mark0_bools]; exact (Has.rep _ _ _ _).alloc _
      · show Has _ _ (nats (List.replicate _ _)) _
        rw [mark0_nats]; simpa using Has.rep (w.alloc (.cells (Array.replicate G.ws.length (.bool false)) 4)) G.n (.int .i64 0) 3
    case round =>
      clear c0 hm1 hm2 hd hd2 hd3
      obtain ⟨k, s, hk, rfl, hM, hpre, hB⟩ := hrel
      have hG := h.kept hB
      have hsz := hB.size
      by_cases hlt : k < set.length
      · rcases hv with ⟨h0, _⟩ | ⟨bs, os, rfl, hv⟩
        · omega
        have hc := hv k _ (ints_get set .i64 k hlt)
        replace hc := (hB.cell (p := ⟨bs, os + k, none⟩) (by simpa using World.block_lt_of_cell? _ _ hc)).trans hc
        have htk := take_getD set k 0 hlt
        have hstep : markAll G (set.take (k + 1)) (mark0 G) = markP G s (set.getD k 0) := by rw [htk, markAll_snoc, hpre.out]; rfl
        have hnone : markP G s (set.getD k 0) = none → markAll G set (mark0 G) = none := by
          intro h; rw [h] at hstep
          have := markAll_none G _ (set.drop (k + 1)) _ hstep
          rwa [List.take_append_drop] at this
        have hkI : (k : Int) < set.length := by omega
        have hk2 : k < 20000 := by have := hlen.out; omega
        clear htk hv
        generalize hi : set.getD k 0 = i at *
        cases hb : decide (0 ≤ i ∧ i < (G.ws.length : Int)) with
        | false =>
          have hx := hfalse.out (hnone (by unfold markP; rw [if_neg (of_decide_eq_false hb)])) wr hB
          have hc1 := Lib.hid (has_at g G i _ hb wr hG)
          clear hstep hnone hb hi
          go_wp2_with fail
          refine hc1.out.mono ?_
          rintro e w1 ⟨rfl, rfl⟩
          go_wp2_with fail
          first | exact hx | (go_ret; exact hx)
        | true =>
          have hi' := of_decide_eq_true hb
          obtain ⟨n, hn⟩ := Int.eq_ofNat_of_zero_le hi'.1
          subst hn
          have hnl : n < G.ws.length := by omega
          have hc1 := Lib.hid (has_at g G n _ hb wr hG)
          have hmk : markP G s (n : Int) = if s.1.getD n false = true then none else some (s.1.set n true, s.2.set (G.line n) (s.2.getD (G.line n) 0 + 1)) := by
            unfold markP; rw [if_pos hi', Int.toNat_natCast]
          have cb := hM.ib.cell (o := n) (v := .bool (s.1.getD n false)) (by rw [List.getElem?_map, get_of_lt false (by rw [hM.il]; exact hnl)]; rfl)
          have fb := hM.ib.free n
          cases hbn : s.1.getD n false with
          | true =>
            rw [hbn] at cb hmk
            have hx := hfalse.out (hnone (by rw [hmk]; rfl)) wr hB
            clear hstep hnone hb hi hmk hbn hi'
            go_wp2_with fail
            refine hc1.out.mono ?_
            rintro e w1 ⟨rfl, rfl⟩
            go_wp2_with fail
            first | exact hx | (go_ret; exact hx)
          | false =>
            rw [hbn] at cb hmk
            rw [hmk] at hstep
            simp only [Bool.false_eq_true, if_false] at hstep
            replace hstep := Lib.hid hstep
            clear hnone hb hi hmk hbn hi'
            obtain ⟨hl, ho⟩ := ok.line_lt hnl
            obtain ⟨bw, ow, cw, e2, f2⟩ := h2.cells (by omega)
            simp only [Value.slice.injEq, true_and] at e2
            obtain ⟨rfl, rfl⟩ := e2
            have b1 : Below w.heap.size w (wr.setCell ⟨w.heap.size, n, none⟩ (.bool true)) := hB.setCell (Nat.le_refl _) _
            have hgl := h1.lt
            have ibs := hM.ib.set n (.bool true)
            have tbs := hM.tb.set_ne (a := ⟨w.heap.size, n, none⟩) (by simp) (.bool true)
            have dd1 := bcell b1 c1
            have wv := bcell b1 (f2 _ _ (wcells_get G.ws n _ (get_of_lt (0, 0) hnl)).1)
            have hml : s.2.getD (G.line n) 0 ≤ k := hM.le _ (mem_getD 0 (by rw [hM.tl]; exact hl))
            have tv := tbs.cell (o := G.line n) (nats_get s.2 _ _ (get_of_lt 0 (by rw [hM.tl]; exact hl)))
            have tf := tbs.free (G.line n)
            have tb2 := tbs.set (G.line n) (.int .i64 ((s.2.getD (G.line n) 0 : Nat) + 1))
            have ib2 := ibs.set_ne (a := ⟨w.heap.size + 1, G.line n, none⟩) (by simp) (.int .i64 ((s.2.getD (G.line n) 0 : Nat) + 1))
            have b2 := b1.setCell (p := ⟨w.heap.size + 1, G.line n, none⟩) (by simp) (.int .i64 ((s.2.getD (G.line n) 0 : Nat) + 1))
            have hM2 : ∀ w', Has w' w.heap.size ((s.1.map Value.bool).set n (.bool true)) 4 → Has w' (w.heap.size + 1) ((nats s.2).set (G.line n) (.int .i64 ((s.2.getD (G.line n) 0 : Nat) + 1))) 3 →
                MkSt w' w.heap.size (w.heap.size + 1) G (k + 1) (s.1.set n true, s.2.set (G.line n) (s.2.getD (G.line n) 0 + 1)) := by
              intro w' p1 p2
              refine ⟨by rw [List.map_set]; exact p1, by unfold nats; rw [List.map_set]; exact p2, by simpa using hM.il, by simpa using hM.tl, mem_set_le hM.le (by omega)⟩
            replace hM2 := Lib.hid hM2
            have hlin : G.line n = (G.ws.getD n (0, 0)).1 / 64 := rfl
            rw [hlin] at hl tv tf tb2 ib2 b2 hM2 hml hstep
            generalize hoff : (G.ws.getD n (0, 0)).1 = off at *
            generalize hmv : s.2.getD (off / 64) 0 = mv at *
            have hnI : (n : Int) < G.ws.length := by omega
            have hol : ((off / 64 : Nat) : Int) < (G.n : Int) := by omega
            clear hoff hmv hlin f2 tbs ibs hM
            go_wp2_with fail
            refine hc1.out.mono ?_
            rintro e w1 ⟨rfl, rfl⟩
            go_wp2_with (go_at_call 83; refine (lineOf_any off _ ho).mono ?_; rintro e w1 ⟨rfl, rfl⟩)
            go_roundw
            case rel =>
              exact ⟨k + 1, _, by omega, by go_num, hM2.out _ ib2 tb2, hstep, b2⟩
            case measure => simp [intOf]; omega
      · have hk' : k = set.length := by omega
        subst hk'
        rw [List.take_length] at hpre
        have c1' := bcell hB c1
        have ib := hM.ib
        have tb := hM.tb
        have il := hM.il
        have tl := hM.tl
        have tle := hM.le
        clear hM hG
        go_wp2_with fail
        go_loopw [75] (fun i wr => ∃ (j : Nat), j ≤ G.ws.length ∧ i = .int .i64 j ∧ Has wr w.heap.size (s.1.map .bool) 4 ∧ Has wr (w.heap.size + 1) (nats s.2) 3 ∧ Hid (tail1 G s j = true) ∧ Below w.heap.size w wr) (fun i _ => G.ws.length - (intOf i).toNat)
        case atStart => exact ⟨0, Nat.zero_le _, rfl, ib, tb, rfl, hB⟩
        case round =>
          clear ib tb c1' hB
          obtain ⟨j, hj, rfl, ib, tb, ht1, hB⟩ := hrel
          have hsz := hB.size
          by_cases hlt : j < G.ws.length
          · obtain ⟨hl, ho⟩ := ok.line_lt hlt
            obtain ⟨bw, ow, cw, e2, f2⟩ := h2.cells (by omega)
            obtain ⟨br, or, cr, e3, f3⟩ := h3.cells (by omega)
            simp only [Value.slice.injEq, true_and] at e2 e3
            obtain ⟨rfl, rfl⟩ := e2
            obtain ⟨rfl, rfl⟩ := e3
            obtain ⟨hw0, hw1⟩ := wcells_get G.ws j _ (get_of_lt (0, 0) hlt)
            have w0 := bcell hB (f2 _ _ hw0)
            have w1 : wr.cell? ⟨bw, ow + j * 2 + 1, none⟩ = _ := bcell hB (f2 _ _ hw1)
            have hr := f3 j _ (nats_get G.rk j _ (get_of_lt 0 (by rw [ok.rl]; exact hlt)))
            have cb := (ib.alloc (.cells #[.int .u64 (G.ws.getD j (0, 0)).1, .int .u64 (G.ws.getD j (0, 0)).2] 133)).cell (o := j) (v := .bool (s.1.getD j false)) (by rw [List.getElem?_map, get_of_lt false (by rw [il]; exact hlt)]; rfl)
            have ct := (tb.alloc (.cells #[.int .u64 (G.ws.getD j (0, 0)).1, .int .u64 (G.ws.getD j (0, 0)).2] 133)).cell (o := G.line j) (nats_get s.2 _ _ (get_of_lt 0 (by rw [tl]; exact hl)))
            have ib2 := ib.alloc (.cells #[.int .u64 (G.ws.getD j (0, 0)).1, .int .u64 (G.ws.getD j (0, 0)).2] 133)
            have tb2 := tb.alloc (.cells #[.int .u64 (G.ws.getD j (0, 0)).1, .int .u64 (G.ws.getD j (0, 0)).2] 133)
            have b2 := hB.alloc hsz (.cells #[.int .u64 (G.ws.getD j (0, 0)).1, .int .u64 (G.ws.getD j (0, 0)).2] 133)
            have c2 := bcell b2 (h1.cell (o := 2) rfl)
            have hr2 := bcell b2 hr
            have bx := (Has.new wr [.int .u64 (G.ws.getD j (0, 0)).1, .int .u64 (G.ws.getD j (0, 0)).2] 133).cell (o := 0) rfl
            have hs1 := tail1_succ G s j
            have hno := tail1_false G s G.ws.length (j + 1) (by omega)
            have hrb := ok.rb _ (mem_getD 0 (by rw [ok.rl]; exact hlt))
            have hmb : s.2.getD (G.line j) 0 ≤ set.length := tle _ (mem_getD 0 (by rw [tl]; exact hl))
            have hjI : (j : Int) < G.ws.length := by omega
            have hjl : (j : Int) < G.ws.length := by omega
            have hln : G.line j = (G.ws.getD j (0, 0)).1 / 64 := rfl
            rw [ht1.out, Bool.true_and] at hs1
            rw [hs1] at hno
            rw [hln] at hs1 hno ct hl hmb
            generalize (G.ws.getD j (0, 0)).2 = val at *
            generalize (G.ws.getD j (0, 0)).1 = off at *
            generalize s.2.getD (off / 64) 0 = mv at *
            generalize G.rk.getD j 0 = rv at *
            generalize s.1.getD j false = bv at *
            have hol : ((off / 64 : Nat) : Int) < (G.n : Int) := by omega
            have hsl2 := hlen.out
            replace hend := fun h => hend.out s false hpre.out (by rw [hno h]; rfl)
            replace hs1 := Lib.hid hs1
            clear hln f2 f3 hw0 hw1 hr ib tb hno c1
            go_wp2_with fail
            have hsz2 : wr.heap.size < (wr.alloc (.cells #[.int .u64 off, .int .u64 val] 133)).heap.size := by simp
            generalize wr.alloc (.cells #[.int .u64 off, .int .u64 val] 133) = w2 at *
            clear w0 w1
            have key : ∀ dv : Bool, decide (rv < mv) = dv → (decide ((rv : Int) < (mv : Int)) = dv) := by intro dv h; rw [← h, decide_eq_decide]; omega
            cases hdv : decide (rv < mv) with
            | false =>
              have hd1 := key _ hdv
              have hd4 : ¬ rv < mv := of_decide_eq_false hdv
              rw [hdv] at hend hs1
              clear key
              cases bv with
              | false =>
                have ht2 : Hid (tail1 G s (j + 1) = true) := Lib.hid hs1.out
                clear hend hs1
                go_quiet ((go_at_call 83; exact Calls.quiet_of_same (lineOf_q off _ ho)))
                go_wp2_with fail
                go_roundw
                case rel => exact ⟨j + 1, by omega, by go_num, ib2.drewN _, tb2.drewN _, ht2, below_drewN b2 nq⟩
                case measure => simp [intOf]; omega
              | true =>
                have hx := Lib.hid (fun nq => hend rfl _ (below_drewN b2 nq))
                clear hend hs1
                go_quiet ((go_at_call 83; exact Calls.quiet_of_same (lineOf_q off _ ho)))
                go_wp2_with fail
                first | exact hx.out _ | (go_ret; exact hx.out _)
            | true =>
              have hd1 := key _ hdv
              have hd4 : rv < mv := of_decide_eq_true hdv
              rw [hdv] at hend hs1
              clear key
              cases bv with
              | true =>
                have ht2 : Hid (tail1 G s (j + 1) = true) := Lib.hid hs1.out
                clear hend hs1
                go_quiet ((go_at_call 83; exact Calls.quiet_of_same (lineOf_q off _ ho)))
                go_wp2_with fail
                go_roundw
                case rel => exact ⟨j + 1, by omega, by go_num, ib2.drewN _, tb2.drewN _, ht2, below_drewN b2 nq⟩
                case measure => simp [intOf]; omega
              | false =>
                have hx := Lib.hid (fun nq => hend rfl _ (below_drewN b2 nq))
                clear hend hs1
                go_quiet ((go_at_call 83; exact Calls.quiet_of_same (lineOf_q off _ ho)))
                go_wp2_with fail
                first | exact hx.out _ | (go_ret; exact hx.out _)
          · have hj' : j = G.ws.length := by omega
            subst hj'
            have ht0 := ht1.out
            have c4 := h1.cell (o := 4) rfl
            obtain ⟨bt, ot, ctt, et, ft⟩ := h5.cells ok.n1
            simp only [Value.slice.injEq, true_and] at et
            obtain ⟨rfl, hct⟩ := et
            replace hct := Lib.hid hct
            replace hend : ∀ b, tail2 G s G.n = b → ∀ w', Below w.heap.size w w' → post (.returned (.bool b)) w' := fun b hb => hend.out s b hpre.out (by rw [ht0, hb]; rfl)
            replace hend := Lib.hid hend
            clear ht0 ht1
            go_wp2_with fail
            go_loopw [102] (fun i wr => ∃ (j : Nat), j ≤ G.n ∧ i = .int .i64 j ∧ Has wr (w.heap.size + 1) (nats s.2) 3 ∧ Hid (tail2 G s j = true) ∧ Below w.heap.size w wr) (fun i _ => G.n - (intOf i).toNat)
            case atStart => exact ⟨0, Nat.zero_le _, rfl, tb, rfl, hB⟩
            case round =>
              clear ib tb hB hj
              obtain ⟨j, hj, rfl, tb, ht2, hB⟩ := hrel
              have hsz := hB.size
              by_cases hlt : j < G.n
              · have g4 := bcell hB c4
                have gm := bcell hB (ft j _ (nats_get G.md j _ (get_of_lt 0 (by rw [ok.ml]; exact hlt))))
                have gt := tb.cell (o := j) (nats_get s.2 _ _ (get_of_lt 0 (by rw [tl]; exact hlt)))
                have hs1 := tail2_succ G s j
                have hno := tail2_false G s G.n (j + 1) (by omega)
                rw [ht2.out, Bool.true_and] at hs1
                rw [hs1] at hno
                have hjI : (j : Int) < G.n := by omega
                generalize s.2.getD j 0 = tv at *
                generalize G.md.getD j 0 = mv at *
                by_cases hle : mv ≤ tv
                · have hd1 : decide ((tv : Int) < (mv : Int)) = false := decide_eq_false (by omega)
                  have hd4 : ¬ tv < mv := by omega
                  rw [decide_eq_true hle] at hs1
                  replace hs1 := Lib.hid hs1
                  clear hno ft hle
                  go_wp2_with fail
                  go_roundw
                  case rel => exact ⟨j + 1, by omega, by go_num, tb, hs1, hB⟩
                  case measure => simp [intOf]; omega
                · have hd1 : decide ((tv : Int) < (mv : Int)) = true := decide_eq_true (by omega)
                  have hd4 : tv < mv := by omega
                  have hx := hend.out false (hno (decide_eq_false hle)) wr hB
                  clear hno ft hle hs1
                  go_wp2_with fail
                  first | exact hx | (go_ret; exact hx)
              · have hj' : j = G.n := by omega
                subst hj'
                have hx := hend.out true ht2.out wr hB
                go_wp2_with fail
                first | exact hx | (go_ret; exact hx)
  · have hd : decide ((G.ws.length : Int) < (set.length : Int)) = true := decide_eq_true (by omega)
    have hres : closedP G set = false := by unfold closedP; rw [decide_eq_false hlen]; rfl
    rw [hres]
    go_enter Try.func56, Try.ntmps56
    go_wp2_with fail
    go_ret
    exact ⟨rfl, Below.refl _ _⟩
end Go.Proofs.Ytjmdibgncaljaaa
