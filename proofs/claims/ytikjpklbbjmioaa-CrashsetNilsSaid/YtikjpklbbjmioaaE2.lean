/- The reference's device: Words. -/
import Derived.Test.YtikjpklbbjmioaaE1
import Derived.Test.YtikjpklbbjmioaaD9
namespace Go.Proofs.Ytikjpklbbjmioaa
open Go.RowKit Go.Maps
variable {w : World} {F : Own} {o h T : Nat} {R : Dv}

def aggW (ws : List Nat) : Value := .agg #[.int .u64 ((wat ws 0 : Nat) : Int), .int .u64 ((wat ws 1 : Nat) : Int), .int .u64 ((wat ws 2 : Nat) : Int), .int .u64 ((wat ws 3 : Nat) : Int), .int .u64 ((wat ws 4 : Nat) : Int), .int .u64 ((wat ws 5 : Nat) : Int), .int .u64 ((wat ws 6 : Nat) : Int), .int .u64 ((wat ws 7 : Nat) : Int)]
def cellsW (ws : List Nat) : List Value := [.int .u64 ((wat ws 0 : Nat) : Int), .int .u64 ((wat ws 1 : Nat) : Int), .int .u64 ((wat ws 2 : Nat) : Int), .int .u64 ((wat ws 3 : Nat) : Int), .int .u64 ((wat ws 4 : Nat) : Int), .int .u64 ((wat ws 5 : Nat) : Int), .int .u64 ((wat ws 6 : Nat) : Int), .int .u64 ((wat ws 7 : Nat) : Int)]
theorem cellsW_get (ws : List Nat) (j : Nat) (h : j < 8) : (cellsW ws)[j]? = some (.int .u64 ((wat ws j : Nat) : Int)) := by
  match j, h with
  | 0, _ | 1, _ | 2, _ | 3, _ | 4, _ | 5, _ | 6, _ | 7, _ => rfl
theorem cellsW_set (ws : List Nat) (h : ws.length = 8) (j v : Nat) (hj : j < 8) : cellsW (ws.set j v) = (cellsW ws).set j (.int .u64 (v : Int)) := by
  have g : ∀ i, wat (ws.set j v) i = if i = j then v else wat ws i := fun i => getD_set _ _ _ _ _ (by omega)
  unfold cellsW
  simp only [g]
  match j, hj with
  | 0, _ | 1, _ | 2, _ | 3, _ | 4, _ | 5, _ | 6, _ | 7, _ => rfl
def WordsPost (w : World) (ws : List Nat) (e : Ending) (w' : World) : Prop := e = .returned (aggW ws) ∧ Below w.heap.size w w'
theorem three_new (w : World) (a z c : List Value) (A Z C : TypeId) : Has (((w.alloc (.cells a.toArray A)).alloc (.cells z.toArray Z)).alloc (.cells c.toArray C)) w.heap.size a A ∧ Has (((w.alloc (.cells a.toArray A)).alloc (.cells z.toArray Z)).alloc (.cells c.toArray C)) (w.heap.size + 1) z Z ∧
    Has (((w.alloc (.cells a.toArray A)).alloc (.cells z.toArray Z)).alloc (.cells c.toArray C)) (w.heap.size + 1 + 1) c C ∧ Below w.heap.size w (((w.alloc (.cells a.toArray A)).alloc (.cells z.toArray Z)).alloc (.cells c.toArray C)) := by
  have h1 := ((Has.new w a A).alloc (.cells z.toArray Z)).alloc (.cells c.toArray C)
  have h2 := (Has.new (w.alloc (.cells a.toArray A)) z Z).alloc (.cells c.toArray C)
  have h3 := Has.new ((w.alloc (.cells a.toArray A)).alloc (.cells z.toArray Z)) c C
  simp only [World.size_alloc] at h2 h3
  exact ⟨h1, h2, h3, (((Below.refl w.heap.size w).alloc (Nat.le_refl _) _).alloc (by simp) _).alloc (by simp; omega) _⟩
set_option maxHeartbeats 4000000 in
set_option maxRecDepth 100000 in
theorem words_any (w : World) (l : Ln) (k : Nat) (va : Option Addr) (vc : Nat) (hb : l.base.length = 8) (hk : k ≤ l.hist.length) (hl : l.hist.length ≤ 100000) (hr : Rd w (.slice va l.hist.length vc) l.hist.length (wcells l.hist)) (hp : ∀ p ∈ l.hist, p.1 < 18446744073709551616 ∧ p.2 < 18446744073709551616) (dn : Int) :
    Calls Try.prog 101 #[.agg #[.int .u64 ((wat l.base 0 : Nat) : Int), .int .u64 ((wat l.base 1 : Nat) : Int), .int .u64 ((wat l.base 2 : Nat) : Int), .int .u64 ((wat l.base 3 : Nat) : Int), .int .u64 ((wat l.base 4 : Nat) : Int), .int .u64 ((wat l.base 5 : Nat) : Int), .int .u64 ((wat l.base 6 : Nat) : Int), .int .u64 ((wat l.base 7 : Nat) : Int), .slice va l.hist.length vc, .int .i64 dn], .int .i64 (k : Int)] w (WordsPost w (wordsL l k)) := by
  generalize hpost : WordsPost w (wordsL l k) = post
  replace hpost := Lib.hid hpost
  have hBx := Has.new w [.int .u64 ((wat l.base 0 : Nat) : Int), .int .u64 ((wat l.base 1 : Nat) : Int), .int .u64 ((wat l.base 2 : Nat) : Int), .int .u64 ((wat l.base 3 : Nat) : Int), .int .u64 ((wat l.base 4 : Nat) : Int), .int .u64 ((wat l.base 5 : Nat) : Int), .int .u64 ((wat l.base 6 : Nat) : Int), .int .u64 ((wat l.base 7 : Nat) : Int), .slice va l.hist.length vc, .int .i64 dn] 122
  have b0 := hBx.cell (o := 0) rfl
  have b1 := hBx.cell (o := 1) rfl
  have b2 := hBx.cell (o := 2) rfl
  have b3 := hBx.cell (o := 3) rfl
  have b4 := hBx.cell (o := 4) rfl
  have b5 := hBx.cell (o := 5) rfl
  have b6 := hBx.cell (o := 6) rfl
  have b7 := hBx.cell (o := 7) rfl
  have hfin : ∀ (w' : World), Below w.heap.size w w' → post (.returned (aggW (wordsL l k))) w' := fun w' hB => by rw [← hpost.out]; exact ⟨rfl, hB⟩
  have hw0 := wordsL_zero l
  have h8 : ∀ i, (wordsL l i).length = 8 := fun i => by rw [wordsL_len]; exact hb
  replace h8 := Lib.hid h8
  replace hfin := Lib.hid hfin
  replace hw0 := Lib.hid hw0
  replace hb := Lib.hid hb
  have h3 := three_new w [.int .u64 ((wat l.base 0 : Nat) : Int), .int .u64 ((wat l.base 1 : Nat) : Int), .int .u64 ((wat l.base 2 : Nat) : Int), .int .u64 ((wat l.base 3 : Nat) : Int), .int .u64 ((wat l.base 4 : Nat) : Int), .int .u64 ((wat l.base 5 : Nat) : Int), .int .u64 ((wat l.base 6 : Nat) : Int), .int .u64 ((wat l.base 7 : Nat) : Int), .slice va l.hist.length vc, .int .i64 dn]
    [.int .u64 0, .int .u64 0, .int .u64 0, .int .u64 0, .int .u64 0, .int .u64 0, .int .u64 0, .int .u64 0] (cellsW l.base) 122 119 119
  replace h3 := Lib.hid h3
  clear hBx
  go_enter Try.func101, Try.ntmps101
  go_wp2_with fail
  go_loopw [6] (fun i wr => ∃ n : Nat, n ≤ k ∧ i = .int .i64 n ∧ Has wr (w.heap.size + 1 + 1) (cellsW (wordsL l n)) 119 ∧ Has wr (w.heap.size + 1) [.int .u64 0, .int .u64 0, .int .u64 0, .int .u64 0, .int .u64 0, .int .u64 0, .int .u64 0, .int .u64 0] 119 ∧ wr.cell? ⟨w.heap.size, 8, none⟩ = some (.slice va l.hist.length vc) ∧ Below w.heap.size w wr) (fun i _ => k - (intOf i).toNat)
  case atStart => exact ⟨0, Nat.zero_le _, rfl, by rw [hw0.out]; exact h3.out.2.2.1, h3.out.2.1, h3.out.1.cell (o := 8) rfl, h3.out.2.2.2⟩
  case round =>
    clear h3 b0 b1 b2 b3 b4 b5 b6 b7
    obtain ⟨n, hn, rfl, hO, hRes, hsl, hB⟩ := hrel
    by_cases hlt : n < k
    · have hnI : (n : Int) < (k : Int) := by omega
      have hat := get_of_lt (0, 0) (show n < l.hist.length by omega)
      have hpk := hp _ (List.mem_of_getElem? hat)
      have hsucc := wordsL_succ l n (0, 0) (by omega)
      generalize l.hist.getD n (0, 0) = p at *
      obtain ⟨p1, p2⟩ := p
      simp only at hpk
      obtain ⟨bl, ol, cl, ea, fa⟩ := (hr.kept hB).cells (by omega)
      simp only [Value.slice.injEq, true_and] at ea
      obtain ⟨rfl, hcap⟩ := ea
      replace hcap := Lib.hid hcap
      have c0 : wr.cell? ⟨bl, ol + n * 2, none⟩ = _ := fa _ _ (wcells_get l.hist n _ hat).1
      have c1 : wr.cell? ⟨bl, ol + n * 2 + 1, none⟩ = _ := fa _ _ (wcells_get l.hist n _ hat).2
      simp only at c0 c1
      obtain ⟨j, hjd⟩ : ∃ j, j = p1 % 64 / 8 := ⟨_, rfl⟩
      obtain ⟨m, hmd⟩ : ∃ m, m = p1 % 64 := ⟨_, rfl⟩
      have hj8 : j < 8 := by omega
      have co := hO.cell (cellsW_get _ _ hj8)
      have fo := hO.free j
      have hst := (hO.drew).set j (.int .u64 (p2 : Int))
      rw [← cellsW_set _ (h8.out n) _ _ hj8] at hst
      have hset : (wordsL l n).set j p2 = wordsL l (n + 1) := by rw [hsucc, hjd]; rfl
      rw [hset] at hst
      have hne : w.heap.size + 1 ≠ w.heap.size + 1 + 1 := by omega
      have hRes2 := (hRes.drew).set_ne (a := ⟨w.heap.size + 1 + 1, j, none⟩) hne (.int .u64 (p2 : Int))
      have hsl2 : (wr.drew.setCell ⟨w.heap.size + 1 + 1, j, none⟩ (.int .u64 (p2 : Int))).cell? ⟨w.heap.size, 8, none⟩ = some (.slice (some ⟨bl, ol, none⟩) l.hist.length vc) := ((Only.refl (fun k => k = w.heap.size + 1 + 1) wr).drew.setCell (a := ⟨w.heap.size + 1 + 1, j, none⟩) (fun _ => rfl) (.int .u64 (p2 : Int))).cell hsl (by show ¬ w.heap.size = w.heap.size + 1 + 1; omega)
      have hB2 : Below w.heap.size w (wr.drew.setCell ⟨w.heap.size + 1 + 1, j, none⟩ (.int .u64 (p2 : Int))) := (below_drewN hB 1).setCell (p := ⟨w.heap.size + 1 + 1, j, none⟩) (by show w.heap.size ≤ w.heap.size + 1 + 1; omega) _
      have hjI : (j : Int) < 8 := by omega
      have hj0 : (0 : Int) ≤ (j : Int) := by omega
      have hm64 : (m : Int) < 64 := by omega
      have hlI : (n : Int) < ((l.hist.length : Nat) : Int) := by omega
      have hp1I : (p1 : Int) < 18446744073709551616 := by omega
      replace hsucc := Lib.hid hsucc
      replace hset := Lib.hid hset
      replace hat := Lib.hid hat
      replace hsl2 := Lib.hid hsl2
      replace hRes2 := Lib.hid hRes2
      clear hO hRes fa
      generalize wat (wordsL l n) j = old at *
      have hmI : (p1 : Int).tmod 64 = (m : Int) := by rw [Int.tmod_eq_emod_of_nonneg (by omega)]; omega
      have hjI2 : IntKind.u64.wrap ((m : Int) / 8) = (j : Int) := by rw [show (m : Int) / 8 = (j : Int) from by omega]; exact IntWalk.u64_in _ (by omega)
      replace hjd := Lib.hid hjd
      replace hmd := Lib.hid hmd
      go_wp2_with fail
      refine region_tail 15 (by kernel_rfl) (by kernel_rfl) ?_
      simp only [List.take_succ_cons, List.take_zero, List.drop_succ_cons, List.drop_zero]
      repeat still_step
      refine wpStill_nil ?_
      clear hmI hjI2
      go_wp2_with fail
      go_roundw
      case rel => exact ⟨n + 1, by omega, by go_num, hst, hRes2.out, hsl2.out, hB2⟩
      case measure => simp [intOf]; omega
    · obtain rfl : n = k := by omega
      have o0 := hO.cell (cellsW_get _ 0 (by omega))
      have o1 := hO.cell (cellsW_get _ 1 (by omega))
      have o2 := hO.cell (cellsW_get _ 2 (by omega))
      have o3 := hO.cell (cellsW_get _ 3 (by omega))
      have o4 := hO.cell (cellsW_get _ 4 (by omega))
      have o5 := hO.cell (cellsW_get _ 5 (by omega))
      have o6 := hO.cell (cellsW_get _ 6 (by omega))
      have o7 := hO.cell (cellsW_get _ 7 (by omega))
      have r0 := hRes.cell (o := 0) rfl
      have r1 := hRes.cell (o := 1) rfl
      have r2 := hRes.cell (o := 2) rfl
      have r3 := hRes.cell (o := 3) rfl
      have r4 := hRes.cell (o := 4) rfl
      have r5 := hRes.cell (o := 5) rfl
      have r6 := hRes.cell (o := 6) rfl
      have r7 := hRes.cell (o := 7) rfl
      have f0 := hRes.free 0
      have f1 := hRes.free 1
      have f2 := hRes.free 2
      have f3 := hRes.free 3
      have f4 := hRes.free 4
      have f5 := hRes.free 5
      have f6 := hRes.free 6
      have f7 := hRes.free 7
      have hBs := hB.size
      have hsz : w.heap.size ≤ w.heap.size + 1 := by omega
      have g0 := hRes.set 0 (.int .u64 ((wat (wordsL l n) 0 : Nat) : Int))
      have q0 := g0.cell (o := 0) rfl
      have g1 := g0.set 1 (.int .u64 ((wat (wordsL l n) 1 : Nat) : Int))
      have q1 := g1.cell (o := 1) rfl
      have g2 := g1.set 2 (.int .u64 ((wat (wordsL l n) 2 : Nat) : Int))
      have q2 := g2.cell (o := 2) rfl
      have g3 := g2.set 3 (.int .u64 ((wat (wordsL l n) 3 : Nat) : Int))
      have q3 := g3.cell (o := 3) rfl
      have g4 := g3.set 4 (.int .u64 ((wat (wordsL l n) 4 : Nat) : Int))
      have q4 := g4.cell (o := 4) rfl
      have g5 := g4.set 5 (.int .u64 ((wat (wordsL l n) 5 : Nat) : Int))
      have q5 := g5.cell (o := 5) rfl
      have g6 := g5.set 6 (.int .u64 ((wat (wordsL l n) 6 : Nat) : Int))
      have q6 := g6.cell (o := 6) rfl
      have g7 := g6.set 7 (.int .u64 ((wat (wordsL l n) 7 : Nat) : Int))
      have q7 := g7.cell (o := 7) rfl
      have hBf : Below w.heap.size w ((((((((wr.setCell ⟨w.heap.size + 1, 0, none⟩ (.int .u64 ((wat (wordsL l n) 0 : Nat) : Int))).setCell ⟨w.heap.size + 1, 1, none⟩ (.int .u64 ((wat (wordsL l n) 1 : Nat) : Int))).setCell ⟨w.heap.size + 1, 2, none⟩ (.int .u64 ((wat (wordsL l n) 2 : Nat) : Int))).setCell ⟨w.heap.size + 1, 3, none⟩ (.int .u64 ((wat (wordsL l n) 3 : Nat) : Int))).setCell ⟨w.heap.size + 1, 4, none⟩ (.int .u64 ((wat (wordsL l n) 4 : Nat) : Int))).setCell ⟨w.heap.size + 1, 5, none⟩ (.int .u64 ((wat (wordsL l n) 5 : Nat) : Int))).setCell ⟨w.heap.size + 1, 6, none⟩ (.int .u64 ((wat (wordsL l n) 6 : Nat) : Int))).setCell ⟨w.heap.size + 1, 7, none⟩ (.int .u64 ((wat (wordsL l n) 7 : Nat) : Int))) :=
        (((((((hB.setCell (p := ⟨w.heap.size + 1, 0, none⟩) hsz _).setCell (p := ⟨w.heap.size + 1, 1, none⟩) hsz _).setCell (p := ⟨w.heap.size + 1, 2, none⟩) hsz _).setCell (p := ⟨w.heap.size + 1, 3, none⟩) hsz _).setCell (p := ⟨w.heap.size + 1, 4, none⟩) hsz _).setCell (p := ⟨w.heap.size + 1, 5, none⟩) hsz _).setCell (p := ⟨w.heap.size + 1, 6, none⟩) hsz _).setCell (p := ⟨w.heap.size + 1, 7, none⟩) hsz _
      have hx := Lib.hid (hfin.out _ hBf)
      clear hBf g0 g1 g2 g3 g4 g5 g6 g7 hO hRes
      go_wp2_with fail
      exact bodyPost_ret (v := aggW (wordsL l n)) (by simp [results, Try.results101, go_sem, q0, q1, q2, q3, q4, q5, q6, q7]; rfl) rfl hx.out
end Go.Proofs.Ytikjpklbbjmioaa
