/- The walk of the reference's Decode. -/
import Derived.Test.YtpjbcadelmjmfaaGreatDoorR41
import Derived.Test.YtpjbcadelmjmfaaGreatDoorR7
import Derived.Test.YtpjbcadelmjmfaaGreatDoorR22
namespace Go.Proofs.YtpjbcadelmjmfaaGreatDoor
open Go.RowKit Go.Lib Go.BigFrame
set_option linter.unusedVariables false

def rdecP (ver : Int) (cs : List CV) (p : List Nat) : List RV × Nat :=
  if p.length < 3 then ([], 11)
  else if p.getD 0 0 + 256 * p.getD 1 0 = 0 ∨ ver < ((p.getD 0 0 + 256 * p.getD 1 0 : Nat) : Int) then ([], 14)
  else match refOk ((p.getD 0 0 + 256 * p.getD 1 0 : Nat) : Int) cs (p.getD 2 0) (p.drop 3) with
    | none => ([], 11)
    | some r => (r, 0)
def RDecPost (w : World) (x : List RV × Nat) (e : Ending) (w' : World) : Prop := ∃ a c, e = .returned (.tuple #[.slice a x.1.length c, .int .i64 (x.2 : Nat)]) ∧ RowB w 54 5 x.1.length (rvCells x.1) a c w'
theorem RDecPost.bad {w w' : World} {x : List RV × Nat} (k : Nat) (h : x = ([], k)) (hb : Below w.heap.size w w') : RDecPost w x (.returned (.tuple #[.slice none 0 0, .int .i64 (k : Int)])) w' := by
  subst h
  exact ⟨none, 0, rfl, RowB.nil' hb _ _⟩
/-- What the loop of the reference's Decode holds. -/
structure RefS (W : World) (ver : Int) (cs : List CV) (nb : Nat) (p : List Nat) (k : Nat) (sa : Option Addr) (sc : Nat) (ra : Option Addr) (rn rc : Nat) (r : List RV) (q : List Nat) (wr : World) : Prop where
  at' : RefAt ver cs nb p r q
  len : r.length = k
  row : RowB W 54 5 k (rvCells r) sa sc wr
  rd : Rd wr (.slice ra rn rc) rn (bcells q)
  rn' : rn = q.length
  rc' : rn ≤ rc
  own : ∀ kk, Value.ownBlock (.slice ra rn rc) = some kk → kk < W.heap.size
  sub : ∀ x ∈ q, x < 256
  ql : q.length ≤ 1000000

theorem tmod_bit (nb k : Nat) (hk : k < 64) : (((nb : Int) / 2 ^ k).tmod 2 == 1) = decide (nb / 2 ^ k % 2 = 1) := by
  have e : ((nb : Int) / 2 ^ k) = ((nb / 2 ^ k : Nat) : Int) := by simp
  rw [e]
  generalize nb / 2 ^ k = y
  rw [Int.tmod_eq_emod_of_nonneg (by omega), Bool.eq_iff_iff, beq_iff_eq, decide_eq_true_eq]
  omega
set_option maxRecDepth 100000 in
/-- p[N:], of bytes; p may be nil where N is 0. -/
theorem cut_any (ra : Option Addr) (rn rc N : Nat) (NI : Int) (hNI : NI = (N : Int)) (q : List Nat) (hn : rn = q.length) (hN : N ≤ rn) (hc : rn ≤ rc) (hra : N = 0 ∨ ∃ b o, ra = some ⟨b, o, none⟩) :
    ∃ a', (∀ wx, (Instr.slice 34 (.slice ra rn rc) (some (.int .i64 NI)) none none).run Tryz.prog wx = .ok (.slice a' (rn - N) (rc - N)) wx) ∧ (∀ kk, Value.ownBlock (.slice a' (rn - N) (rc - N)) = some kk → Value.ownBlock (.slice ra rn rc) = some kk) ∧
      ∀ w', Rd w' (.slice ra rn rc) rn (bcells q) → Rd w' (.slice a' (rn - N) (rc - N)) (rn - N) (bcells (q.drop N)) := by
  rcases hra with rfl | ⟨b, o, rfl⟩
  · subst hNI
    have hr := fun wx => run_slice_l (P := Tryz.prog) wx 34 ra rn rc Tryz.underlying34 .i64 ((0 : Nat) : Int) (by omega) (by omega)
    refine ⟨if rc = 0 then ra else ra.map (·.add (0 * 1)), fun wx => ?_, fun kk hkk => ?_, fun w' h => ?_⟩
    · rw [hr wx]
      have : (sizeOf (Tryz.prog.elem 34)).run Tryz.prog wx = .ok 1 wx := by simp [go_sem]
      rw [this]
      simp only [Result.andThen, sliced, Int.toNat_natCast]
    · split at hkk
      · exact hkk
      · cases ra with
        | none => simp [Value.ownBlock] at hkk
        | some a =>
          obtain ⟨b, o, s⟩ := a
          simp only [Option.map_some, Value.ownBlock, Addr.add] at hkk ⊢
          split at hkk <;> simpa using hkk
    · rw [List.drop_zero, Nat.sub_zero, Nat.sub_zero]
      split
      · exact h
      · obtain ⟨a, cap, e, h'⟩ := h
        simp only [Value.slice.injEq, true_and] at e
        obtain ⟨rfl, _⟩ := e
        rcases h' with h' | ⟨b, off, rfl, h'⟩
        · exact ⟨_, _, rfl, .inl h'⟩
        · exact ⟨_, _, rfl, .inr ⟨b, off, rfl, h'⟩⟩
  · obtain ⟨a', h1, h2, h3⟩ := cut_from b o rn rc N NI hNI q hn hN hc
    exact ⟨a', h1, fun kk hk => by rw [h2 kk hk]; rfl, h3⟩
theorem i32_sum (a b c d : Nat) (ha : a < 256) (hb : b < 256) (hc : c < 256) (hd : d < 256) : wrap64 (wrap32 ((((a : Int) + (b : Int) * 256) + (c : Int) * 65536) + (d : Int) * 16777216)) = i32 a b c d := by
  unfold i32 wrap64 wrap32
  split <;> omega
theorem wrap_nat (x : Nat) (h : x < 256) : wrap64 (x : Int) = (x : Int) := by unfold wrap64; omega
theorem wrap_nat1 (x : Nat) (h : x < 256) : wrap64 (1 + (x : Int)) = 1 + (x : Int) := by unfold wrap64; omega
set_option maxHeartbeats 8000000 in
set_option maxRecDepth 100000 in
theorem rdecode_any (ver : Int) (cs : List CV) (hm8 : cs.length ≤ 8) (ca : Option Addr) (cc : Nat) (p : List Nat) (hp : ∀ x ∈ p, x < 256) (hpl : p.length ≤ 1000000)
    (pa : Option Addr) (pc : Nat) (hpc : p.length ≤ pc) (W : World) (hr : Rd W (.slice ca cs.length cc) cs.length (rcCells cs)) (hrp : Rd W (.slice pa p.length pc) p.length (bcells p)) :
    Calls Tryz.prog 33 #[.int .i64 ver, .slice ca cs.length cc, .slice pa p.length pc] W (RDecPost W (rdecP ver cs p)) := by
  generalize hpost : RDecPost W (rdecP ver cs p) = post
  replace hpost := Lib.hid hpost
  have hbad : ∀ (k : Nat) w', rdecP ver cs p = ([], k) → Below W.heap.size W w' → post (.returned (.tuple #[.slice none 0 0, .int .i64 (k : Int)])) w' := by
    intro k w' h hb
    rw [← hpost.out]
    exact RDecPost.bad k h hb
  have hr0 := hr
  obtain ⟨m, hm⟩ : ∃ m, m = cs.length := ⟨_, rfl⟩
  obtain ⟨n, hnn⟩ : ∃ n, n = p.length := ⟨_, rfl⟩
  rw [← hm] at hr hm8 ⊢
  rw [← hnn] at hrp hpl hpc ⊢
  replace hbad := Lib.hid hbad
  replace hm := Lib.hid hm
  replace hnn := Lib.hid hnn
  by_cases h3 : n < 3
  · have d3 : decide ((n : Int) < 3) = true := decide_eq_true (by omega)
    have hf := hbad.out 11 W (by unfold rdecP; rw [if_pos (by have := hnn.out; omega)]) (Below.refl _ _)
    replace hf := Lib.hid hf
    go_enter Tryz.func33, Tryz.ntmps33
    go_wp2_with fail
    first | exact hf.out | (go_ret; exact hf.out) | (go_ret2; exact hf.out)
  · have d3 : decide ((n : Int) < 3) = false := decide_eq_false (by omega)
    have hn3 : 3 ≤ p.length := by have := hnn.out; omega
    obtain ⟨bp, op, rfl, hcell⟩ := byte_cell (by rw [← hnn.out]; exact hrp) (by omega)
    have c0 := hcell 0 (by omega)
    have c1 := hcell 1 (by omega)
    have c2 := hcell 2 (by omega)
    rw [Nat.add_zero] at c0
    have hx0 := hp (p.getD 0 0) (List.mem_of_getElem? (get_lt 0 (by omega)))
    have hx1 := hp (p.getD 1 0) (List.mem_of_getElem? (get_lt 0 (by omega)))
    have hx2 := hp (p.getD 2 0) (List.mem_of_getElem? (get_lt 0 (by omega)))
    obtain ⟨V, hV⟩ : ∃ V, V = p.getD 0 0 + 256 * p.getD 1 0 := ⟨_, rfl⟩
    have hdec : rdecP ver cs p = if V = 0 ∨ ver < (V : Int) then ([], 14) else match refOk (V : Int) cs (p.getD 2 0) (p.drop 3) with | none => ([], 11) | some r => (r, 0) := by
      unfold rdecP
      rw [if_neg (by omega), hV]
    generalize p.getD 0 0 = x0 at *
    generalize p.getD 1 0 = x1 at *
    obtain ⟨nb, hnb2⟩ : ∃ nb, nb = p.getD 2 0 := ⟨_, rfl⟩
    rw [← hnb2] at c2 hx2 hdec
    have q0 : 0 < n := by omega
    have q1 : 1 < n := by omega
    have q2 : (0 : Int) < n := by omega
    have q3 : (1 : Int) < n := by omega
    have q4 : 2 < n := by omega
    have q5 : (2 : Int) < n := by omega
    replace hdec := Lib.hid hdec
    replace hV := Lib.hid hV
    replace hnb2 := Lib.hid hnb2
    clear hcell
    go_enter Tryz.func33, Tryz.ntmps33
    go_upto_region 3 with fail
    refine region_tail 10 (by kernel_rfl) (by kernel_rfl) ?_
    simp only [List.take_succ_cons, List.take_zero, List.drop_succ_cons, List.drop_zero]
    repeat still_step
    refine wpStill_nil ?_
    have hVe : IntKind.i64.wrap (IntKind.i64.wrap (x0 : Int) + IntKind.i64.wrap (IntKind.i64.wrap (x1 : Int) * 256)) = (V : Int) := by
      rw [IntWalk.i64_in (x0 : Int) (by omega), IntWalk.i64_in (x1 : Int) (by omega), IntWalk.i64_in ((x1 : Int) * 256) (by omega), IntWalk.i64_in ((x0 : Int) + (x1 : Int) * 256) (by omega)]
      have := hV.out
      omega
    rw [hVe]
    clear hVe c0 c1
    have hnbz : ((V : Int) == 0) = decide (V = 0) := by rw [Bool.eq_iff_iff]; simp
    by_cases hV0 : V = 0 ∨ ver < (V : Int)
    · have hf1 := hbad.out 14 _ (by rw [hdec.out, if_pos hV0]) (below_drew (Below.refl W.heap.size W))
      replace hf1 := Lib.hid hf1
      by_cases hz : V = 0
      · have g0 : ((V : Int) == 0) = true := by rw [hnbz]; simp [hz]
        replace hz := Lib.hid hz
        replace hV0 := Lib.hid hV0
        clear hnbz
        go_wp2_with fail
        first | exact hf1.out | (go_ret; exact hf1.out) | (go_ret2; exact hf1.out)
      · have g0 : ((V : Int) == 0) = false := by rw [hnbz]; simp [hz]
        have g1 : decide ((V : Int) > ver) = true := decide_eq_true (by omega)
        have g2 : decide (ver < (V : Int)) = true := decide_eq_true (by omega)
        replace hz := Lib.hid hz
        replace hV0 := Lib.hid hV0
        clear hnbz
        go_wp2_with fail
        first | exact hf1.out | (go_ret; exact hf1.out) | (go_ret2; exact hf1.out)
    · have g0 : ((V : Int) == 0) = false := by rw [hnbz]; simp; omega
      have g1 : decide ((V : Int) > ver) = false := decide_eq_false (by omega)
      have g2 : decide (ver < (V : Int)) = false := decide_eq_false (by omega)
      have hdec2 := hdec.out
      rw [if_neg hV0] at hdec2
      replace hdec2 := Lib.hid hdec2
      replace hV0 := Lib.hid hV0
      clear hnbz hdec
      obtain ⟨q', hsl, hob, hrd⟩ := cut_from bp op n pc 3 3 rfl p hnn.out (by omega) hpc
      obtain ⟨w2, hw2⟩ : ∃ w2, w2 = W.drew := ⟨_, rfl⟩
      have hb2 : Below W.heap.size W w2 := by rw [hw2]; exact below_drew (Below.refl _ _)
      have hrp2 : Rd w2 (.slice (some ⟨bp, op, none⟩) n pc) n (bcells p) := hrp.kept hb2
      have hbpl : bp < W.heap.size := by
        have h := hrp.cells (by omega)
        obtain ⟨b', o', c', e', h'⟩ := h
        simp only [Value.slice.injEq, Option.some.injEq, Addr.mk.injEq, and_true, true_and] at e'
        obtain ⟨⟨rfl, rfl⟩, _⟩ := e'
        exact World.block_lt_of_cell? _ _ (h' 0 _ (bcells_get p 0 (by omega)))
      have hp0 : RefS W (V : Int) cs nb (p.drop 3) 0 none 0 q' (n - 3) (pc - 3) [] (p.drop 3) w2 :=
        ⟨RefAt.nil _ _ _ _, rfl, RowB.nil' hb2 _ _, hrd w2 hrp2, by rw [List.length_drop, hnn.out], by omega, fun kk hk => by rw [hob kk hk]; exact hbpl, fun x hx => hp x (List.mem_of_mem_drop hx), by rw [List.length_drop, ← hnn.out]; omega⟩
      have c2w : w2.cell? ⟨bp, op + 2, none⟩ = some (.int .u8 (nb : Int)) := cellk hb2 c2
      have wnb : wrap64 (nb : Int) = (nb : Int) := by unfold wrap64; omega
      replace hp0 := Lib.hid hp0
      replace hbpl := Lib.hid hbpl
      replace hb2 := Lib.hid hb2
      replace hrp2 := Lib.hid hrp2
      obtain ⟨n3, hn3e⟩ : ∃ n3, n3 = n - 3 := ⟨_, rfl⟩
      obtain ⟨c3, hc3e⟩ : ∃ c3, c3 = pc - 3 := ⟨_, rfl⟩
      rw [← hn3e, ← hc3e] at hsl hp0
      replace hw2 := Lib.hid hw2
      replace hn3e := Lib.hid hn3e
      replace hc3e := Lib.hid hc3e
      clear hrd hob
      go_upto_region 6 with fail
      rw [← hw2.out]
      clear c2
      go_wp2_with fail
      go_loopw [2, 10, 11] (fun y x i wr => ∃ (k : Nat) (sa : Option Addr) (sy : Nat) (ra : Option Addr) (rn rc : Nat) (r : List RV) (q : List Nat), k ≤ m ∧ y = .slice ra rn rc ∧ x = .slice sa k sy ∧ i = .int .i64 k ∧ RefS W (V : Int) cs nb (p.drop 3) k sa sy ra rn rc r q wr) (fun _ _ i _ => m - (RowKit.intOf i).toNat)
      case atStart => exact ⟨0, _, _, _, _, _, _, _, by omega, rfl, rfl, rfl, hp0.out⟩
      case round =>
        clear hp0 c2w hsl wnb
        obtain ⟨k, sa, sy, ra, rn, rc, r, q, hk, rfl, rfl, rfl, hS⟩ := hrel
        by_cases hkm : k < m
        · have hlI : (k : Int) < m := by omega
          have hkc : k < cs.length := by have := hm.out; omega
          have hrk : r.length = k := hS.len
          have hrl : r.length < cs.length := by omega
          have hBr := hS.row.b
          obtain ⟨bl, ol, cl, ea, fa⟩ := (hr0.kept hBr).rcol hkc
          simp only [Value.slice.injEq, true_and] at ea
          obtain ⟨rfl, hcap⟩ := ea
          replace hcap := Lib.hid hcap
          have hlaterB := hS.at'.laterBad hrl
          have hlater := hS.at'.later hrl
          have hnullB := hS.at'.nullBad hrl
          have hnullN := hS.at'.null hrl
          have hsN := hS.at'.strictNone hrl
          have hsB := fun x t => @RefAt.strictBad _ _ _ _ _ _ hS.at' hrl (x := x) (t := t)
          have hsS := fun x t => @RefAt.strict _ _ _ _ _ _ hS.at' hrl (x := x) (t := t)
          rw [hrk] at hlaterB hlater hnullB hnullN hsN hsB hsS
          have hc := fun j v hj => fa j v hj
          generalize cs.getD k CV0 = c at *
          obtain ⟨nm, ty, nl, sc, ⟨dty, dnl, dn, dtx, db⟩⟩ := c
          simp only at hlaterB hlater hnullB hnullN hsN hsB hsS
          have c0 : wr.cell? ⟨bl, ol + k * 8, none⟩ = _ := hc 0 _ rfl
          have c1 := hc 1 _ rfl
          have c2' := hc 2 _ rfl
          have c3' := hc 3 _ rfl
          have c4 := hc 4 _ rfl
          have c5 := hc 5 _ rfl
          have c6 := hc 6 _ rfl
          have c7 := hc 7 _ rfl
          obtain ⟨A, hA⟩ : ∃ A, A = wr.alloc (.cells #[.int .i64 (ty : Int), .bool nl, .int .i64 sc, .int .i64 (dty : Int), .bool dnl, .int .i64 dn, .string dtx, .bool db] 96) := ⟨_, rfl⟩
          have hN : Has A wr.heap.size [.int .i64 (ty : Int), .bool nl, .int .i64 sc, .int .i64 (dty : Int), .bool dnl, .int .i64 dn, .string dtx, .bool db] 96 := by rw [hA]; exact Has.new wr _ _
          have hbrA : Below wr.heap.size wr A := by rw [hA]; exact (Below.refl _ _).alloc (Nat.le_refl _) _
          have hRA : RowB W 54 5 k (rvCells r) sa sy A := hS.row.below hbrA
          have hBA := hRA.b
          have n2' := hN.cell (o := 2) rfl
          have hkk : decide ((k : Int) < 0) = false := decide_eq_false (by omega)
          replace hA := Lib.hid hA
          replace hRA := Lib.hid hRA
          replace hrk := Lib.hid hrk
          replace hN := Lib.hid hN
          replace hBA := Lib.hid hBA
          replace hbrA := Lib.hid hbrA
          replace hBr := Lib.hid hBr
          replace hS := Lib.hid hS
          replace hlaterB := Lib.hid hlaterB
          replace hlater := Lib.hid hlater
          replace hnullB := Lib.hid hnullB
          replace hnullN := Lib.hid hnullN
          replace hsN := Lib.hid hsN
          replace hsB := Lib.hid hsB
          replace hsS := Lib.hid hsS
          clear hc fa hrl
          go_upto_region 13 with fail
          rw [← hA.out]
          clear c0 c1 c2' c3' c4 c5 c6 c7
          have hbit := tmod_bit nb k (by omega)
          obtain ⟨bB, hbB⟩ : ∃ bB, bB = decide (nb / 2 ^ k % 2 = 1) := ⟨_, rfl⟩
          rw [← hbB] at hbit
          replace hbB := Lib.hid hbB
          go_upto_region 14 with fail
          clear hbit
          replace hbB := hbB.out
          by_cases hvs : (V : Int) < sc
          · have g3 : decide (sc > (V : Int)) = true := decide_eq_true (by omega)
            have g4 : decide ((V : Int) < sc) = true := decide_eq_true hvs
            cases bB with
            | true =>
              have hf := hbad.out 11 A (by rw [hdec2.out, hlaterB.out hvs (of_decide_eq_true hbB.symm)]) hBA.out
              replace hf := Lib.hid hf
              replace hvs := Lib.hid hvs
              replace hbB := Lib.hid hbB
              go_wp2_with fail
              first | exact hf.out | (go_ret; exact hf.out) | (go_ret2; exact hf.out)
            | false =>
              have hnx := hlater.out hvs (of_decide_eq_false hbB.symm)
              have n3' := hN.out.cell (o := 3) rfl
              have n4' := hN.out.cell (o := 4) rfl
              have n5' := hN.out.cell (o := 5) rfl
              have n6' := hN.out.cell (o := 6) rfl
              have n7' := hN.out.cell (o := 7) rfl
              have hR5 := hRA.out.alloc (.cells #[.int .i64 (dty : Int), .bool dnl, .int .i64 dn, .string dtx, .bool db] 54)
              have hN5 := Has.new A [.int .i64 (dty : Int), .bool dnl, .int .i64 dn, .string dtx, .bool db] 54
              have ho5 := hR5.o
              have hby : (k + 1) * 48 ≤ 140737488355328 := by omega
              have hfin5 : ∀ sa' sc' w6, RowB W 54 5 (k + 1) (rvCells r ++ [.int .i64 (dty : Int), .bool dnl, .int .i64 dn, .string dtx, .bool db]) sa' sc' w6 → RefS W (V : Int) cs nb (p.drop 3) (k + 1) sa' sc' ra rn rc (r ++ [⟨dty, dnl, dn, dtx, db⟩]) q w6 := by
                intro sa' sc' w6 h6
                have hS' := hS.out
                refine ⟨hnx, by rw [List.length_append, hrk.out]; rfl, ?_, Rd.via hBr.out h6.b hS'.rd hS'.own, hS'.rn', hS'.rc', hS'.own, hS'.sub, hS'.ql⟩
                rw [rvc_snoc]; exact h6
              replace hvs := Lib.hid hvs
              replace hbB := Lib.hid hbB
              replace hnx := Lib.hid hnx
              replace hR5 := Lib.hid hR5
              replace hfin5 := Lib.hid hfin5
              go_wp2_with (at_builtin; refine wpList_app rfl (.tmp 62) (.tmp 65) 41 rfl 54 (.agg #[.int .i64 0, .bool false, .int .i64 0, .string ByteArray.empty, .bool false]) 5 48 Tryz.underlying41 infoRVal rfl (by decide) (by decide) sa k sy (rvCells r) (by exact ho5) rfl _ 1 1 [.int .i64 (dty : Int), .bool dnl, .int .i64 dn, .string dtx, .bool db] rfl rfl (by exact news_at hN5) (by simp [Value.oneCell']) (by exact hby) ?_)
              intro sa' sc' w6 own6 only6 fresh6
              have hR6 := hR5.out.app (m := k + 1) (ys := [.int .i64 (dty : Int), .bool dnl, .int .i64 dn, .string dtx, .bool db]) own6 only6 (by simpa using fresh6)
              have hS6 := hfin5.out sa' sc' w6 hR6
              replace hS6 := Lib.hid hS6
              clear hR6 own6 only6 fresh6 hN5 ho5 hR5 hfin5 n2' n3' n4' n5' n6' n7'
              go_wp2_with fail
              go_roundw
              case rel => exact ⟨k + 1, sa', sc', _, _, _, _, _, by omega, rfl, rfl, by go_num, hS6.out⟩
              case measure => simp [RowKit.intOf]; omega
          · have g3 : decide (sc > (V : Int)) = false := decide_eq_false (by omega)
            have g4 : decide ((V : Int) < sc) = false := decide_eq_false hvs
            have n0' := hN.out.cell (o := 0) rfl
            obtain ⟨A2, hA2⟩ : ∃ A2, A2 = (A.alloc (.cells #[.int .i64 (ty : Int), .bool bB, .int .i64 0, .string ⟨#[]⟩, .bool false] 54)) := ⟨_, rfl⟩
            have hV2 : Has A2 A.heap.size (zeroV ty bB).rcells 54 := by rw [hA2]; exact Has.new A _ 54
            have hbA2 : Below A.heap.size A A2 := by rw [hA2]; exact (Below.refl _ _).alloc (Nat.le_refl _) _
            have hN2 := hN.out.only (Only.of_below hbA2) (Nat.not_le.2 hN.out.lt)
            have hR2 := hRA.out.below hbA2
            have hS2 := hS.out
            have hRq2 := Rd.via hBr.out hR2.b hS2.rd hS2.own
            have h1 := hS2.rn'
            have h2 := hS2.rc'
            have h4 := hS2.sub
            have h5 := hS2.ql
            have m0 := hN2.cell (o := 0) rfl
            have hwA : wr.heap.size < A.heap.size := hN.out.lt
            have hWA : W.heap.size ≤ A.heap.size := hBA.out.size
            clear hS2
            cases bB with
            | true =>
              have hb1 := of_decide_eq_true hbB.symm
              have hbadv := hnullB.out hvs hb1
              have hnext := hnullN.out hvs hb1
              obtain ⟨v, hv⟩ : ∃ v, v = zeroV ty true := ⟨_, rfl⟩
              rw [← hv] at hbadv hnext hV2
              have hvx : v.tx.size ≤ 9223372036854775807 := by rw [hv]; exact Nat.zero_le _
              obtain ⟨N, hNe⟩ : ∃ N, N = 0 := ⟨_, rfl⟩
              have hcut := cut_any ra rn rc N 0 (by omega) q h1 (by omega) h2 (.inl hNe)
              have hq0 : q = q.drop N := by rw [hNe]; rfl
              rw [hq0] at hnext
              obtain ⟨A3, hA3⟩ : ∃ A3, A3 = A2 := ⟨_, rfl⟩
              have hVc : Has A3 A.heap.size v.rcells 54 := by rw [hA3]; exact hV2
              have hNc := hN2
              rw [← hA3] at hNc m0
              have hRc := hR2
              rw [← hA3] at hRc hA2
              replace hv := Lib.hid hv
              replace hNe := Lib.hid hNe
              replace hq0 := Lib.hid hq0
              replace hA3 := Lib.hid hA3
              replace hA2 := Lib.hid hA2
              replace hvs := Lib.hid hvs
              replace hbB := Lib.hid hbB
              replace hb1 := Lib.hid hb1
              clear h1 h2 h4 h5 hV2 hN2 hR2 hRq2
              go_upto_region 19 with fail
              rw [← hA2.out]
              clear n0' n2' m0
              obtain ⟨vt, vn, vi, vx, vb⟩ := v
              have hvs2 : vx.size ≤ 9223372036854775807 := hvx
              have hbc := hRc.b
              have hfitc := rfits_any ty nl sc ⟨dty, dnl, dn, dtx, db⟩ vt vn vi vx vb hvs2 A3
              obtain ⟨F, hF⟩ : ∃ F, F = fitsP ty nl ⟨vt, vn, vi, vx, vb⟩ := ⟨_, rfl⟩
              rw [← hF] at hfitc hbadv hnext
              have y0 := hNc.cell (o := 0) rfl
              have y1 := hNc.cell (o := 1) rfl
              have y2 := hNc.cell (o := 2) rfl
              have y3 := hNc.cell (o := 3) rfl
              have y4 := hNc.cell (o := 4) rfl
              have y5 := hNc.cell (o := 5) rfl
              have y6 := hNc.cell (o := 6) rfl
              have y7 := hNc.cell (o := 7) rfl
              have z0 := hVc.cell (o := 0) rfl
              have z1 := hVc.cell (o := 1) rfl
              have z2 := hVc.cell (o := 2) rfl
              have z3 := hVc.cell (o := 3) rfl
              have z4 := hVc.cell (o := 4) rfl
              have kV := fun w' (hb : Below A3.heap.size A3 w') => hVc.only (Only.of_below hb) (Nat.not_le.2 hVc.lt)
              have hRd5 := fun w' (hb : Below A3.heap.size A3 w') => hRc.below hb
              obtain ⟨a', hsl, hob, hrd'⟩ := hcut
              replace kV := Lib.hid kV
              replace hRd5 := Lib.hid hRd5
              replace hF := Lib.hid hF
              replace hbadv := Lib.hid hbadv
              replace hnext := Lib.hid hnext
              replace hfitc := Lib.hid hfitc
              replace hRc := Lib.hid hRc
              replace hbc := Lib.hid hbc
              replace hob := Lib.hid hob
              replace hrd' := Lib.hid hrd'
              clear hNc hVc
              go_wp2_with fail
              refine hfitc.out.mono ?_
              rintro e w5 ⟨rfl, hb5⟩
              clear y0 y1 y2 y3 y4 y5 y6 y7 z0 z1 z2 z3 z4 hfitc
              by_cases hF0 : F = 0
              · have dF : ((F : Int) != 0) = false := by simp [hF0]
                have hV5 := kV.out w5 hb5
                have z0 := hV5.cell (o := 0) rfl
                have z1 := hV5.cell (o := 1) rfl
                have z2 := hV5.cell (o := 2) rfl
                have z3 := hV5.cell (o := 3) rfl
                have z4 := hV5.cell (o := 4) rfl
                have hR5 := (hRd5.out w5 hb5).alloc (.cells #[.int .i64 (vt : Int), .bool vn, .int .i64 vi, .string vx, .bool vb] 54)
                have hN5 := Has.new w5 [.int .i64 (vt : Int), .bool vn, .int .i64 vi, .string vx, .bool vb] 54
                have ho5 := hR5.o
                have hby : (k + 1) * 48 ≤ 140737488355328 := by omega
                have hfin5 : ∀ sa' sc' w6, RowB W 54 5 (k + 1) (rvCells r ++ [.int .i64 (vt : Int), .bool vn, .int .i64 vi, .string vx, .bool vb]) sa' sc' w6 → RefS W (V : Int) cs nb (p.drop 3) (k + 1) sa' sc' a' (rn - N) (rc - N) (r ++ [⟨vt, vn, vi, vx, vb⟩]) (q.drop N) w6 := by
                  intro sa' sc' w6 h6
                  have hS' := hS.out
                  have e1 := hS'.rn'
                  have e2 := hS'.rc'
                  have e3 := hS'.ql
                  refine ⟨hnext.out (by rw [← hF0]), by rw [List.length_append, hrk.out]; rfl, ?_, hrd'.out w6 (Rd.via hBr.out h6.b hS'.rd hS'.own), by rw [List.length_drop, ← e1], by omega, fun kk hk => ?_, fun x hx => hS'.sub x (List.mem_of_mem_drop hx), by rw [List.length_drop]; omega⟩
                  · rw [rvc_snoc]; exact h6
                  · exact hS'.own kk (hob.out kk hk)
                replace hF0 := Lib.hid hF0
                replace hR5 := Lib.hid hR5
                replace hfin5 := Lib.hid hfin5
                replace hb5 := Lib.hid hb5
                clear hV5 kV hRd5
                go_wp2_with (at_builtin; refine wpList_app rfl (.tmp 155) (.tmp 157) 41 rfl 54 (.agg #[.int .i64 0, .bool false, .int .i64 0, .string ByteArray.empty, .bool false]) 5 48 Tryz.underlying41 infoRVal rfl (by decide) (by decide) sa k sy (rvCells r) (by exact ho5) rfl _ 1 1 [.int .i64 (vt : Int), .bool vn, .int .i64 vi, .string vx, .bool vb] rfl rfl (by exact news_at hN5) (by simp [Value.oneCell']) (by exact hby) ?_)
                intro sa' sc' w6 own6 only6 fresh6
                have hR6 := hR5.out.app (m := k + 1) (ys := [.int .i64 (vt : Int), .bool vn, .int .i64 vi, .string vx, .bool vb]) own6 only6 (by simpa using fresh6)
                have hS6 := hfin5.out sa' sc' w6 hR6
                replace hS6 := Lib.hid hS6
                clear hR6 own6 only6 fresh6 hN5 ho5 hR5 hfin5 z0 z1 z2 z3 z4
                go_wp2_with fail
                go_roundw
                case rel => exact ⟨k + 1, sa', sc', _, _, _, _, _, by omega, rfl, rfl, by go_num, hS6.out⟩
                case measure => simp [RowKit.intOf]; omega
              · have dF : ((F : Int) != 0) = true := by simp [hF0]
                have hnone := hbadv.out hF0
                have hf := hbad.out 11 w5 (by
                  rw [hdec2.out, hnone]) (hbc.out.trans (hb5.mono hbc.out.size))
                replace hf := Lib.hid hf
                replace hF0 := Lib.hid hF0
                replace hnone := Lib.hid hnone
                clear hb5 kV hRd5
                go_wp2_with fail
                first | exact hf.out | (go_ret; exact hf.out) | (go_ret2; exact hf.out)
            | false =>
              have hb1 := of_decide_eq_false hbB.symm
              have hsN' := hsN.out hvs hb1
              have hsB' := fun x t => hsB.out x t hvs hb1
              have hsS' := fun x t => hsS.out x t hvs hb1
              have hbA2b := hR2.b
              replace hA2 := Lib.hid hA2
              replace hvs := Lib.hid hvs
              replace hbB := Lib.hid hbB
              replace hb1 := Lib.hid hb1
              replace hwA := Lib.hid hwA
              replace hWA := Lib.hid hWA
              replace hN2 := Lib.hid hN2
              replace hR2 := Lib.hid hR2
              replace hRq2 := Lib.hid hRq2
              replace hbA2 := Lib.hid hbA2
              have hzz : ∀ j (u : Value), Only (fun k => k = A.heap.size) A2 (A2.setCell ⟨A.heap.size, j, none⟩ u) := fun j u => (Only.refl (fun k => k = A.heap.size) A2).setCell (a := ⟨A.heap.size, j, none⟩) (fun _ => rfl) _
              have hNO : ∀ A3, Only (fun k => k = A.heap.size) A2 A3 → Has A3 wr.heap.size [.int .i64 (ty : Int), .bool nl, .int .i64 sc, .int .i64 (dty : Int), .bool dnl, .int .i64 dn, .string dtx, .bool db] 96 := fun A3 ho => hN2.out.only ho (Nat.ne_of_lt hwA.out)
              have hRO : ∀ A3, Only (fun k => k = A.heap.size) A2 A3 → RowB W 54 5 k (rvCells r) sa sy A3 := fun A3 ho => ⟨ownsRow_only hR2.out.o ho (fun kk hk e => by have := ownsRow_lt hRA.out.o hk; omega), hR2.out.ob, hR2.out.b.trans (ho.below (B := W.heap.size) hR2.out.b.size (fun k _ e => by rw [e]; exact hWA.out))⟩
              replace hzz := Lib.hid hzz
              replace hNO := Lib.hid hNO
              replace hRO := Lib.hid hRO
              by_cases ht1 : ty = 1
              · have dt1 : ((ty : Int) == 1) = true := by rw [ht1]; rfl
                by_cases h44 : rn < 4
                · have d4 : decide ((rn : Int) < 4) = true := decide_eq_true (by omega)
                  have hst : strictP ty q = none := by rw [ht1]; unfold strictP; rw [if_pos rfl, if_pos (by omega)]
                  have hf := hbad.out 11 A2 (by rw [hdec2.out, hsN' hst]) hbA2b
                  replace hf := Lib.hid hf
                  replace hst := Lib.hid hst
                  replace hsN' := Lib.hid hsN'
                  replace hsB' := Lib.hid hsB'
                  replace hsS' := Lib.hid hsS'
                  replace h1 := Lib.hid h1
                  replace ht1 := Lib.hid ht1
                  clear hV2 h4 hbA2b h2 h5
                  go_upto_region 19 with fail
                  rw [← hA2.out]
                  clear n0' n2'
                  go_wp2_with fail
                  first | exact hf.out | (go_ret; exact hf.out) | (go_ret2; exact hf.out)
                · have d4 : decide ((rn : Int) < 4) = false := decide_eq_false (by omega)
                  have hst : strictP ty q = some ({ zeroV ty false with n := i32 (q.getD 0 0) (q.getD 1 0) (q.getD 2 0) (q.getD 3 0) }, q.drop 4) := by unfold strictP; rw [if_pos ht1, if_neg (by omega)]
                  obtain ⟨rb, ro, rfl, hcell⟩ := byte_cell (by rw [← h1]; exact hRq2.out) (by omega)
                  have e0 := hcell 0 (by omega)
                  have e1 := hcell 1 (by omega)
                  have e2 := hcell 2 (by omega)
                  have e3 := hcell 3 (by omega)
                  rw [Nat.add_zero] at e0
                  have hy0 := h4 (q.getD 0 0) (List.mem_of_getElem? (get_lt 0 (by omega)))
                  have hy1 := h4 (q.getD 1 0) (List.mem_of_getElem? (get_lt 0 (by omega)))
                  have hy2 := h4 (q.getD 2 0) (List.mem_of_getElem? (get_lt 0 (by omega)))
                  have hy3 := h4 (q.getD 3 0) (List.mem_of_getElem? (get_lt 0 (by omega)))
                  generalize q.getD 0 0 = y0 at *
                  generalize q.getD 1 0 = y1 at *
                  generalize q.getD 2 0 = y2 at *
                  generalize q.getD 3 0 = y3 at *
                  have hbadv := fun h => hsB' _ _ hst h
                  have hnext := fun h => hsS' _ _ hst h
                  obtain ⟨v, hv⟩ : ∃ v, v = { zeroV ty false with n := i32 y0 y1 y2 y3 } := ⟨_, rfl⟩
                  replace ht1 := Lib.hid ht1
                  rw [← hv] at hbadv hnext
                  have hvx : v.tx.size ≤ 9223372036854775807 := by rw [hv]; exact Nat.zero_le _
                  obtain ⟨N, hNe⟩ : ∃ N, N = 4 := ⟨_, rfl⟩
                  have hcut := cut_any (some ⟨rb, ro, none⟩) rn rc N 4 (by omega) q h1 (by omega) h2 (.inr ⟨rb, ro, rfl⟩)
                  rw [← hNe] at hnext
                  have hsum := i32_sum y0 y1 y2 y3 hy0 hy1 hy2 hy3
                  have f2 := hV2.free 2
                  have u2 : A2.cell? ⟨A.heap.size, 2, none⟩ = some (.int .i64 0) := hV2.cell (o := 2) rfl
                  have r0 : 0 < rn := by omega
                  have r1 : 1 < rn := by omega
                  have r2 : 2 < rn := by omega
                  have r3 : 3 < rn := by omega
                  have r4 : (0 : Int) < rn := by omega
                  have r5 : (1 : Int) < rn := by omega
                  have r6 : (2 : Int) < rn := by omega
                  have r7 : (3 : Int) < rn := by omega
                  replace hv := Lib.hid hv
                  replace hNe := Lib.hid hNe
                  replace hst := Lib.hid hst
                  replace hsN' := Lib.hid hsN'
                  replace hsB' := Lib.hid hsB'
                  replace hsS' := Lib.hid hsS'
                  replace hbadv := Lib.hid hbadv
                  replace hnext := Lib.hid hnext
                  replace hcut := Lib.hid hcut
                  replace h1 := Lib.hid h1
                  replace hV2 := Lib.hid hV2
                  replace hsum := Lib.hid hsum
                  clear hcell h4 hbA2b h2 h5
                  go_upto_region 19 with fail
                  rw [← hA2.out]
                  clear n0' n2'
                  go_upto_region 29 with fail
                  refine region_tail 24 (by kernel_rfl) (by kernel_rfl) ?_
                  simp only [List.take_succ_cons, List.take_zero, List.drop_succ_cons, List.drop_zero]
                  repeat still_step
                  refine wpStill_nil ?_
                  go_upto_region 35 with fail
                  rw [hsum.out]
                  obtain ⟨A3, hA3⟩ : ∃ A3, A3 = (A2.setCell ⟨A.heap.size, 2, none⟩ (.int .i64 (i32 y0 y1 y2 y3))).drew := ⟨_, rfl⟩
                  rw [← hA3]
                  have hO3 : Only (fun k => k = A.heap.size) A2 A3 := by rw [hA3]; exact (hzz.out 2 _).drew
                  have hVc : Has A3 A.heap.size v.rcells 54 := by rw [hA3, hv.out]; exact (hV2.out.set 2 (.int .i64 (i32 y0 y1 y2 y3))).drew
                  have hNc := hNO.out A3 hO3
                  have hRc := hRO.out A3 hO3
                  replace hbadv := hbadv.out
                  replace hnext := hnext.out
                  replace hcut := hcut.out
                  replace hA3 := Lib.hid hA3
                  replace hO3 := Lib.hid hO3
                  clear e0 e1 e2 e3 f2 u2 m0 r0 r1 r2 r3 r4 r5 r6 r7
                  obtain ⟨vt, vn, vi, vx, vb⟩ := v
                  have hvs2 : vx.size ≤ 9223372036854775807 := hvx
                  have hbc := hRc.b
                  have hfitc := rfits_any ty nl sc ⟨dty, dnl, dn, dtx, db⟩ vt vn vi vx vb hvs2 A3
                  obtain ⟨F, hF⟩ : ∃ F, F = fitsP ty nl ⟨vt, vn, vi, vx, vb⟩ := ⟨_, rfl⟩
                  rw [← hF] at hfitc hbadv hnext
                  have y0 := hNc.cell (o := 0) rfl
                  have y1 := hNc.cell (o := 1) rfl
                  have y2 := hNc.cell (o := 2) rfl
                  have y3 := hNc.cell (o := 3) rfl
                  have y4 := hNc.cell (o := 4) rfl
                  have y5 := hNc.cell (o := 5) rfl
                  have y6 := hNc.cell (o := 6) rfl
                  have y7 := hNc.cell (o := 7) rfl
                  have z0 := hVc.cell (o := 0) rfl
                  have z1 := hVc.cell (o := 1) rfl
                  have z2 := hVc.cell (o := 2) rfl
                  have z3 := hVc.cell (o := 3) rfl
                  have z4 := hVc.cell (o := 4) rfl
                  have kV := fun w' (hb : Below A3.heap.size A3 w') => hVc.only (Only.of_below hb) (Nat.not_le.2 hVc.lt)
                  have hRd5 := fun w' (hb : Below A3.heap.size A3 w') => hRc.below hb
                  obtain ⟨a', hsl, hob, hrd'⟩ := hcut
                  replace kV := Lib.hid kV
                  replace hRd5 := Lib.hid hRd5
                  replace hF := Lib.hid hF
                  replace hbadv := Lib.hid hbadv
                  replace hnext := Lib.hid hnext
                  replace hfitc := Lib.hid hfitc
                  replace hRc := Lib.hid hRc
                  replace hbc := Lib.hid hbc
                  replace hob := Lib.hid hob
                  replace hrd' := Lib.hid hrd'
                  clear hNc hVc
                  go_wp2_with fail
                  refine hfitc.out.mono ?_
                  rintro e w5 ⟨rfl, hb5⟩
                  clear y0 y1 y2 y3 y4 y5 y6 y7 z0 z1 z2 z3 z4 hfitc
                  by_cases hF0 : F = 0
                  · have dF : ((F : Int) != 0) = false := by simp [hF0]
                    have hV5 := kV.out w5 hb5
                    have z0 := hV5.cell (o := 0) rfl
                    have z1 := hV5.cell (o := 1) rfl
                    have z2 := hV5.cell (o := 2) rfl
                    have z3 := hV5.cell (o := 3) rfl
                    have z4 := hV5.cell (o := 4) rfl
                    have hR5 := (hRd5.out w5 hb5).alloc (.cells #[.int .i64 (vt : Int), .bool vn, .int .i64 vi, .string vx, .bool vb] 54)
                    have hN5 := Has.new w5 [.int .i64 (vt : Int), .bool vn, .int .i64 vi, .string vx, .bool vb] 54
                    have ho5 := hR5.o
                    have hby : (k + 1) * 48 ≤ 140737488355328 := by omega
                    have hfin5 : ∀ sa' sc' w6, RowB W 54 5 (k + 1) (rvCells r ++ [.int .i64 (vt : Int), .bool vn, .int .i64 vi, .string vx, .bool vb]) sa' sc' w6 → RefS W (V : Int) cs nb (p.drop 3) (k + 1) sa' sc' a' (rn - N) (rc - N) (r ++ [⟨vt, vn, vi, vx, vb⟩]) (q.drop N) w6 := by
                      intro sa' sc' w6 h6
                      have hS' := hS.out
                      have e1 := hS'.rn'
                      have e2 := hS'.rc'
                      have e3 := hS'.ql
                      refine ⟨hnext.out (by rw [← hF0]), by rw [List.length_append, hrk.out]; rfl, ?_, hrd'.out w6 (Rd.via hBr.out h6.b hS'.rd hS'.own), by rw [List.length_drop, ← e1], by omega, fun kk hk => ?_, fun x hx => hS'.sub x (List.mem_of_mem_drop hx), by rw [List.length_drop]; omega⟩
                      · rw [rvc_snoc]; exact h6
                      · exact hS'.own kk (hob.out kk hk)
                    replace hF0 := Lib.hid hF0
                    replace hR5 := Lib.hid hR5
                    replace hfin5 := Lib.hid hfin5
                    replace hb5 := Lib.hid hb5
                    clear hV5 kV hRd5
                    go_wp2_with (at_builtin; refine wpList_app rfl (.tmp 155) (.tmp 157) 41 rfl 54 (.agg #[.int .i64 0, .bool false, .int .i64 0, .string ByteArray.empty, .bool false]) 5 48 Tryz.underlying41 infoRVal rfl (by decide) (by decide) sa k sy (rvCells r) (by exact ho5) rfl _ 1 1 [.int .i64 (vt : Int), .bool vn, .int .i64 vi, .string vx, .bool vb] rfl rfl (by exact news_at hN5) (by simp [Value.oneCell']) (by exact hby) ?_)
                    intro sa' sc' w6 own6 only6 fresh6
                    have hR6 := hR5.out.app (m := k + 1) (ys := [.int .i64 (vt : Int), .bool vn, .int .i64 vi, .string vx, .bool vb]) own6 only6 (by simpa using fresh6)
                    have hS6 := hfin5.out sa' sc' w6 hR6
                    replace hS6 := Lib.hid hS6
                    clear hR6 own6 only6 fresh6 hN5 ho5 hR5 hfin5 z0 z1 z2 z3 z4
                    go_wp2_with fail
                    go_roundw
                    case rel => exact ⟨k + 1, sa', sc', _, _, _, _, _, by omega, rfl, rfl, by go_num, hS6.out⟩
                    case measure => simp [RowKit.intOf]; omega
                  · have dF : ((F : Int) != 0) = true := by simp [hF0]
                    have hnone := hbadv.out hF0
                    have hf := hbad.out 11 w5 (by
                      rw [hdec2.out, hnone]) (hbc.out.trans (hb5.mono hbc.out.size))
                    replace hf := Lib.hid hf
                    replace hF0 := Lib.hid hF0
                    replace hnone := Lib.hid hnone
                    clear hb5 kV hRd5
                    go_wp2_with fail
                    first | exact hf.out | (go_ret; exact hf.out) | (go_ret2; exact hf.out)
              · have dt1 : ((ty : Int) == 1) = false := by rw [beq_eq_false_iff_ne]; omega
                by_cases ht2 : ty = 2
                · have dt2 : ((ty : Int) == 2) = true := by rw [ht2]; rfl
                  by_cases h44 : rn < 1
                  · have d4 : decide ((rn : Int) < 1) = true := decide_eq_true (by omega)
                    have hst : strictP ty q = none := by unfold strictP; rw [if_neg ht1, if_pos ht2, if_pos (.inl (by omega))]
                    have hf := hbad.out 11 A2 (by rw [hdec2.out, hsN' hst]) hbA2b
                    replace hf := Lib.hid hf
                    replace hst := Lib.hid hst
                    replace hsN' := Lib.hid hsN'
                    replace hsB' := Lib.hid hsB'
                    replace hsS' := Lib.hid hsS'
                    replace ht1 := Lib.hid ht1
                    replace h1 := Lib.hid h1
                    replace ht2 := Lib.hid ht2
                    clear hV2 h4 hbA2b h2 h5
                    go_upto_region 19 with fail
                    rw [← hA2.out]
                    clear n0' n2'
                    go_wp2_with fail
                    first | exact hf.out | (go_ret; exact hf.out) | (go_ret2; exact hf.out)
                  · have d4 : decide ((rn : Int) < 1) = false := decide_eq_false (by omega)
                    obtain ⟨rb, ro, rfl, hcell⟩ := byte_cell (by rw [← h1]; exact hRq2.out) (by omega)
                    have e0 := hcell 0 (by omega)
                    rw [Nat.add_zero] at e0
                    have hy0 := h4 (q.getD 0 0) (List.mem_of_getElem? (get_lt 0 (by omega)))
                    obtain ⟨y0, hy0e⟩ : ∃ y0, y0 = q.getD 0 0 := ⟨_, rfl⟩
                    rw [← hy0e] at e0 hy0
                    have r0 : 0 < rn := by omega
                    have r4 : (0 : Int) < rn := by omega
                    by_cases h45 : rn < 1 + y0
                    · have d5 : decide ((rn : Int) < 1 + (y0 : Int)) = true := decide_eq_true (by omega)
                      have hst : strictP ty q = none := by unfold strictP; rw [if_neg ht1, if_pos ht2, if_pos (.inr (by omega))]
                      have hf := hbad.out 11 A2 (by rw [hdec2.out, hsN' hst]) hbA2b
                      replace hf := Lib.hid hf
                      replace hst := Lib.hid hst
                      replace hsN' := Lib.hid hsN'
                      replace hsB' := Lib.hid hsB'
                      replace hsS' := Lib.hid hsS'
                      replace ht1 := Lib.hid ht1
                      replace h1 := Lib.hid h1
                      replace ht2 := Lib.hid ht2
                      replace hy0e := Lib.hid hy0e
                      clear hcell hV2 h4 hbA2b h2 h5
                      go_upto_region 19 with fail
                      rw [← hA2.out]
                      clear n0' n2'
                      go_wp2_with fail
                      first | exact hf.out | (go_ret; exact hf.out) | (go_ret2; exact hf.out)
                    · have d5 : decide ((rn : Int) < 1 + (y0 : Int)) = false := decide_eq_false (by omega)
                      have hst : strictP ty q = some ({ zeroV ty false with tx := strOfNats ((q.take (1 + y0)).drop 1) }, q.drop (1 + y0)) := by
                        unfold strictP
                        rw [if_neg ht1, if_pos ht2, if_neg (by omega), hy0e]
                      obtain ⟨S, hS'⟩ : ∃ S, S = strOfNats ((q.take (1 + y0)).drop 1) := ⟨_, rfl⟩
                      rw [← hS'] at hst
                      have hbadv := fun h => hsB' _ _ hst h
                      have hnext := fun h => hsS' _ _ hst h
                      obtain ⟨v, hv⟩ : ∃ v, v = { zeroV ty false with tx := S } := ⟨_, rfl⟩
                      rw [← hv] at hbadv hnext
                      have hlen : ((q.take (1 + y0)).drop 1).length = y0 := by rw [List.length_drop, List.length_take]; omega
                      have hvx : v.tx.size ≤ 9223372036854775807 := by
                        rw [hv]
                        show S.size ≤ _
                        rw [hS', size_strOfNats, hlen]; omega
                      obtain ⟨N, hNe⟩ : ∃ N, N = 1 + y0 := ⟨_, rfl⟩
                      have hcut := cut_any (some ⟨rb, ro, none⟩) rn rc N (1 + (y0 : Int)) (by omega) q h1 (by omega) h2 (.inr ⟨rb, ro, rfl⟩)
                      rw [← hNe] at hnext
                      obtain ⟨o2, hsl2, hrd2⟩ := cut_mid rb ro rn rc (1 + y0) (1 + (y0 : Int)) (by omega) q h1 (by omega) (by omega) h2
                      have hcv : (convert 34 9 (.slice (some ⟨rb, o2, none⟩) (1 + y0 - 1) (rc - 1))).run Tryz.prog A2 = .ok (.string S) A2 := by
                        have h2' := hrd2 A2 hRq2.out
                        by_cases hx : y0 = 0
                        · rw [hS', List.eq_nil_of_length_eq_zero (hlen.trans hx)]
                          rw [hx]
                          exact conv_zero _ _ _
                        · have e3 : 1 + y0 - 1 = ((q.take (1 + y0)).drop 1).length := by omega
                          rw [e3] at h2' ⊢
                          rw [hS']
                          exact conv_rds h2' (fun x hx => h4 x (List.mem_of_mem_take (List.mem_of_mem_drop hx))) (by omega)
                      have hn3' : 1 + y0 - 1 = y0 := by omega
                      rw [hn3'] at hcv hsl2
                      obtain ⟨C, hC⟩ : ∃ C, C = rc - 1 := ⟨_, rfl⟩
                      rw [← hC] at hcv hsl2
                      have f2 := hV2.free 3
                      have u2 : A2.cell? ⟨A.heap.size, 3, none⟩ = some (.string ⟨#[]⟩) := hV2.cell (o := 3) rfl
                      replace hC := Lib.hid hC
                      replace hn3' := Lib.hid hn3'
                      replace hv := Lib.hid hv
                      replace hNe := Lib.hid hNe
                      replace hst := Lib.hid hst
                      replace hS' := Lib.hid hS'
                      replace hy0e := Lib.hid hy0e
                      replace hlen := Lib.hid hlen
                      replace hsN' := Lib.hid hsN'
                      replace hsB' := Lib.hid hsB'
                      replace hsS' := Lib.hid hsS'
                      replace ht1 := Lib.hid ht1
                      replace h1 := Lib.hid h1
                      replace ht2 := Lib.hid ht2
                      replace hbadv := Lib.hid hbadv
                      replace hnext := Lib.hid hnext
                      replace hcut := Lib.hid hcut
                      replace hV2 := Lib.hid hV2
                      clear hcell h4 hbA2b hrd2 h2 h5
                      go_upto_region 19 with fail
                      rw [← hA2.out]
                      clear n0' n2'
                      go_upto_region 35 with fail
                      obtain ⟨A3, hA3⟩ : ∃ A3, A3 = (A2.setCell ⟨A.heap.size, 3, none⟩ (.string S)) := ⟨_, rfl⟩
                      rw [← hA3]
                      have hO3 : Only (fun k => k = A.heap.size) A2 A3 := by rw [hA3]; exact hzz.out 3 _
                      have hVc : Has A3 A.heap.size v.rcells 54 := by rw [hA3, hv.out]; exact hV2.out.set 3 (.string S)
                      have hNc := hNO.out A3 hO3
                      have hRc := hRO.out A3 hO3
                      replace hbadv := hbadv.out
                      replace hnext := hnext.out
                      replace hcut := hcut.out
                      replace hA3 := Lib.hid hA3
                      replace hO3 := Lib.hid hO3
                      clear e0 f2 u2 m0 r0 r4 hcv hsl2
                      obtain ⟨vt, vn, vi, vx, vb⟩ := v
                      have hvs2 : vx.size ≤ 9223372036854775807 := hvx
                      have hbc := hRc.b
                      have hfitc := rfits_any ty nl sc ⟨dty, dnl, dn, dtx, db⟩ vt vn vi vx vb hvs2 A3
                      obtain ⟨F, hF⟩ : ∃ F, F = fitsP ty nl ⟨vt, vn, vi, vx, vb⟩ := ⟨_, rfl⟩
                      rw [← hF] at hfitc hbadv hnext
                      have y0 := hNc.cell (o := 0) rfl
                      have y1 := hNc.cell (o := 1) rfl
                      have y2 := hNc.cell (o := 2) rfl
                      have y3 := hNc.cell (o := 3) rfl
                      have y4 := hNc.cell (o := 4) rfl
                      have y5 := hNc.cell (o := 5) rfl
                      have y6 := hNc.cell (o := 6) rfl
                      have y7 := hNc.cell (o := 7) rfl
                      have z0 := hVc.cell (o := 0) rfl
                      have z1 := hVc.cell (o := 1) rfl
                      have z2 := hVc.cell (o := 2) rfl
                      have z3 := hVc.cell (o := 3) rfl
                      have z4 := hVc.cell (o := 4) rfl
                      have kV := fun w' (hb : Below A3.heap.size A3 w') => hVc.only (Only.of_below hb) (Nat.not_le.2 hVc.lt)
                      have hRd5 := fun w' (hb : Below A3.heap.size A3 w') => hRc.below hb
                      obtain ⟨a', hsl, hob, hrd'⟩ := hcut
                      replace kV := Lib.hid kV
                      replace hRd5 := Lib.hid hRd5
                      replace hF := Lib.hid hF
                      replace hbadv := Lib.hid hbadv
                      replace hnext := Lib.hid hnext
                      replace hfitc := Lib.hid hfitc
                      replace hRc := Lib.hid hRc
                      replace hbc := Lib.hid hbc
                      replace hob := Lib.hid hob
                      replace hrd' := Lib.hid hrd'
                      clear hNc hVc
                      go_wp2_with fail
                      refine hfitc.out.mono ?_
                      rintro e w5 ⟨rfl, hb5⟩
                      clear y0 y1 y2 y3 y4 y5 y6 y7 z0 z1 z2 z3 z4 hfitc
                      by_cases hF0 : F = 0
                      · have dF : ((F : Int) != 0) = false := by simp [hF0]
                        have hV5 := kV.out w5 hb5
                        have z0 := hV5.cell (o := 0) rfl
                        have z1 := hV5.cell (o := 1) rfl
                        have z2 := hV5.cell (o := 2) rfl
                        have z3 := hV5.cell (o := 3) rfl
                        have z4 := hV5.cell (o := 4) rfl
                        have hR5 := (hRd5.out w5 hb5).alloc (.cells #[.int .i64 (vt : Int), .bool vn, .int .i64 vi, .string vx, .bool vb] 54)
                        have hN5 := Has.new w5 [.int .i64 (vt : Int), .bool vn, .int .i64 vi, .string vx, .bool vb] 54
                        have ho5 := hR5.o
                        have hby : (k + 1) * 48 ≤ 140737488355328 := by omega
                        have hfin5 : ∀ sa' sc' w6, RowB W 54 5 (k + 1) (rvCells r ++ [.int .i64 (vt : Int), .bool vn, .int .i64 vi, .string vx, .bool vb]) sa' sc' w6 → RefS W (V : Int) cs nb (p.drop 3) (k + 1) sa' sc' a' (rn - N) (rc - N) (r ++ [⟨vt, vn, vi, vx, vb⟩]) (q.drop N) w6 := by
                          intro sa' sc' w6 h6
                          have hS' := hS.out
                          have e1 := hS'.rn'
                          have e2 := hS'.rc'
                          have e3 := hS'.ql
                          refine ⟨hnext.out (by rw [← hF0]), by rw [List.length_append, hrk.out]; rfl, ?_, hrd'.out w6 (Rd.via hBr.out h6.b hS'.rd hS'.own), by rw [List.length_drop, ← e1], by omega, fun kk hk => ?_, fun x hx => hS'.sub x (List.mem_of_mem_drop hx), by rw [List.length_drop]; omega⟩
                          · rw [rvc_snoc]; exact h6
                          · exact hS'.own kk (hob.out kk hk)
                        replace hF0 := Lib.hid hF0
                        replace hR5 := Lib.hid hR5
                        replace hfin5 := Lib.hid hfin5
                        replace hb5 := Lib.hid hb5
                        clear hV5 kV hRd5
                        go_wp2_with (at_builtin; refine wpList_app rfl (.tmp 155) (.tmp 157) 41 rfl 54 (.agg #[.int .i64 0, .bool false, .int .i64 0, .string ByteArray.empty, .bool false]) 5 48 Tryz.underlying41 infoRVal rfl (by decide) (by decide) sa k sy (rvCells r) (by exact ho5) rfl _ 1 1 [.int .i64 (vt : Int), .bool vn, .int .i64 vi, .string vx, .bool vb] rfl rfl (by exact news_at hN5) (by simp [Value.oneCell']) (by exact hby) ?_)
                        intro sa' sc' w6 own6 only6 fresh6
                        have hR6 := hR5.out.app (m := k + 1) (ys := [.int .i64 (vt : Int), .bool vn, .int .i64 vi, .string vx, .bool vb]) own6 only6 (by simpa using fresh6)
                        have hS6 := hfin5.out sa' sc' w6 hR6
                        replace hS6 := Lib.hid hS6
                        clear hR6 own6 only6 fresh6 hN5 ho5 hR5 hfin5 z0 z1 z2 z3 z4
                        go_wp2_with fail
                        go_roundw
                        case rel => exact ⟨k + 1, sa', sc', _, _, _, _, _, by omega, rfl, rfl, by go_num, hS6.out⟩
                        case measure => simp [RowKit.intOf]; omega
                      · have dF : ((F : Int) != 0) = true := by simp [hF0]
                        have hnone := hbadv.out hF0
                        have hf := hbad.out 11 w5 (by
                          rw [hdec2.out, hnone]) (hbc.out.trans (hb5.mono hbc.out.size))
                        replace hf := Lib.hid hf
                        replace hF0 := Lib.hid hF0
                        replace hnone := Lib.hid hnone
                        clear hb5 kV hRd5
                        go_wp2_with fail
                        first | exact hf.out | (go_ret; exact hf.out) | (go_ret2; exact hf.out)
                · have dt2 : ((ty : Int) == 2) = false := by rw [beq_eq_false_iff_ne]; omega
                  by_cases h44 : rn < 1
                  · have d4 : decide ((rn : Int) < 1) = true := decide_eq_true (by omega)
                    have hst : strictP ty q = none := by unfold strictP; rw [if_neg ht1, if_neg ht2, if_pos (.inl (by omega))]
                    have hf := hbad.out 11 A2 (by rw [hdec2.out, hsN' hst]) hbA2b
                    replace hf := Lib.hid hf
                    replace hst := Lib.hid hst
                    replace hsN' := Lib.hid hsN'
                    replace hsB' := Lib.hid hsB'
                    replace hsS' := Lib.hid hsS'
                    replace ht1 := Lib.hid ht1
                    replace h1 := Lib.hid h1
                    replace ht2 := Lib.hid ht2
                    clear hV2 h4 hbA2b h2 h5
                    go_upto_region 19 with fail
                    rw [← hA2.out]
                    clear n0' n2'
                    go_wp2_with fail
                    first | exact hf.out | (go_ret; exact hf.out) | (go_ret2; exact hf.out)
                  · have d4 : decide ((rn : Int) < 1) = false := decide_eq_false (by omega)
                    obtain ⟨rb, ro, rfl, hcell⟩ := byte_cell (by rw [← h1]; exact hRq2.out) (by omega)
                    have e0 := hcell 0 (by omega)
                    rw [Nat.add_zero] at e0
                    have hy0 := h4 (q.getD 0 0) (List.mem_of_getElem? (get_lt 0 (by omega)))
                    obtain ⟨y0, hy0e⟩ : ∃ y0, y0 = q.getD 0 0 := ⟨_, rfl⟩
                    rw [← hy0e] at e0 hy0
                    have r0 : 0 < rn := by omega
                    have r4 : (0 : Int) < rn := by omega
                    by_cases h45 : 1 < y0
                    · have d5 : decide ((y0 : Int) > 1) = true := decide_eq_true (by omega)
                      have d6 : decide (1 < (y0 : Int)) = true := decide_eq_true (by omega)
                      have d7 : decide (1 < y0) = true := decide_eq_true (by omega)
                      have hst : strictP ty q = none := by unfold strictP; rw [if_neg ht1, if_neg ht2, if_pos (.inr (by omega))]
                      have hf := hbad.out 11 A2 (by rw [hdec2.out, hsN' hst]) hbA2b
                      replace hf := Lib.hid hf
                      replace hst := Lib.hid hst
                      replace hsN' := Lib.hid hsN'
                      replace hsB' := Lib.hid hsB'
                      replace hsS' := Lib.hid hsS'
                      replace ht1 := Lib.hid ht1
                      replace h1 := Lib.hid h1
                      replace ht2 := Lib.hid ht2
                      replace hy0e := Lib.hid hy0e
                      clear hcell hV2 h4 hbA2b h2 h5
                      go_upto_region 19 with fail
                      rw [← hA2.out]
                      clear n0' n2'
                      go_wp2_with fail
                      first | exact hf.out | (go_ret; exact hf.out) | (go_ret2; exact hf.out)
                    · have d5 : decide ((y0 : Int) > 1) = false := decide_eq_false (by omega)
                      have d6 : decide (1 < (y0 : Int)) = false := decide_eq_false (by omega)
                      have d7 : decide (1 < y0) = false := decide_eq_false (by omega)
                      have hst : strictP ty q = some ({ zeroV ty false with b := decide (y0 = 1) }, q.drop 1) := by
                        unfold strictP
                        rw [if_neg ht1, if_neg ht2, if_neg (by omega), hy0e]
                      obtain ⟨bv, hbv⟩ : ∃ bv, bv = decide (y0 = 1) := ⟨_, rfl⟩
                      rw [← hbv] at hst
                      have hbI : ((y0 : Int) == 1) = bv := by rw [hbv, Bool.eq_iff_iff, beq_iff_eq, decide_eq_true_eq]; omega
                      have hbadv := fun h => hsB' _ _ hst h
                      have hnext := fun h => hsS' _ _ hst h
                      obtain ⟨v, hv⟩ : ∃ v, v = { zeroV ty false with b := bv } := ⟨_, rfl⟩
                      rw [← hv] at hbadv hnext
                      have hvx : v.tx.size ≤ 9223372036854775807 := by rw [hv]; exact Nat.zero_le _
                      obtain ⟨N, hNe⟩ : ∃ N, N = 1 := ⟨_, rfl⟩
                      have hcut := cut_any (some ⟨rb, ro, none⟩) rn rc N 1 (by omega) q h1 (by omega) h2 (.inr ⟨rb, ro, rfl⟩)
                      rw [← hNe] at hnext
                      have f2 := hV2.free 4
                      have u2 : A2.cell? ⟨A.heap.size, 4, none⟩ = some (.bool false) := hV2.cell (o := 4) rfl
                      replace hbv := Lib.hid hbv
                      replace hv := Lib.hid hv
                      replace hNe := Lib.hid hNe
                      replace hst := Lib.hid hst
                      replace hy0e := Lib.hid hy0e
                      replace hsN' := Lib.hid hsN'
                      replace hsB' := Lib.hid hsB'
                      replace hsS' := Lib.hid hsS'
                      replace ht1 := Lib.hid ht1
                      replace h1 := Lib.hid h1
                      replace ht2 := Lib.hid ht2
                      replace hbadv := Lib.hid hbadv
                      replace hnext := Lib.hid hnext
                      replace hcut := Lib.hid hcut
                      replace hV2 := Lib.hid hV2
                      clear hcell h4 hbA2b h2 h5
                      go_upto_region 19 with fail
                      rw [← hA2.out]
                      clear n0' n2'
                      go_upto_region 35 with fail
                      obtain ⟨A3, hA3⟩ : ∃ A3, A3 = (A2.setCell ⟨A.heap.size, 4, none⟩ (.bool bv)) := ⟨_, rfl⟩
                      rw [← hA3]
                      have hO3 : Only (fun k => k = A.heap.size) A2 A3 := by rw [hA3]; exact hzz.out 4 _
                      have hVc : Has A3 A.heap.size v.rcells 54 := by rw [hA3, hv.out]; exact hV2.out.set 4 (.bool bv)
                      have hNc := hNO.out A3 hO3
                      have hRc := hRO.out A3 hO3
                      replace hbadv := hbadv.out
                      replace hnext := hnext.out
                      replace hcut := hcut.out
                      replace hA3 := Lib.hid hA3
                      replace hO3 := Lib.hid hO3
                      clear e0 f2 u2 m0 r0 r4
                      obtain ⟨vt, vn, vi, vx, vb⟩ := v
                      have hvs2 : vx.size ≤ 9223372036854775807 := hvx
                      have hbc := hRc.b
                      have hfitc := rfits_any ty nl sc ⟨dty, dnl, dn, dtx, db⟩ vt vn vi vx vb hvs2 A3
                      obtain ⟨F, hF⟩ : ∃ F, F = fitsP ty nl ⟨vt, vn, vi, vx, vb⟩ := ⟨_, rfl⟩
                      rw [← hF] at hfitc hbadv hnext
                      have y0 := hNc.cell (o := 0) rfl
                      have y1 := hNc.cell (o := 1) rfl
                      have y2 := hNc.cell (o := 2) rfl
                      have y3 := hNc.cell (o := 3) rfl
                      have y4 := hNc.cell (o := 4) rfl
                      have y5 := hNc.cell (o := 5) rfl
                      have y6 := hNc.cell (o := 6) rfl
                      have y7 := hNc.cell (o := 7) rfl
                      have z0 := hVc.cell (o := 0) rfl
                      have z1 := hVc.cell (o := 1) rfl
                      have z2 := hVc.cell (o := 2) rfl
                      have z3 := hVc.cell (o := 3) rfl
                      have z4 := hVc.cell (o := 4) rfl
                      have kV := fun w' (hb : Below A3.heap.size A3 w') => hVc.only (Only.of_below hb) (Nat.not_le.2 hVc.lt)
                      have hRd5 := fun w' (hb : Below A3.heap.size A3 w') => hRc.below hb
                      obtain ⟨a', hsl, hob, hrd'⟩ := hcut
                      replace kV := Lib.hid kV
                      replace hRd5 := Lib.hid hRd5
                      replace hF := Lib.hid hF
                      replace hbadv := Lib.hid hbadv
                      replace hnext := Lib.hid hnext
                      replace hfitc := Lib.hid hfitc
                      replace hRc := Lib.hid hRc
                      replace hbc := Lib.hid hbc
                      replace hob := Lib.hid hob
                      replace hrd' := Lib.hid hrd'
                      clear hNc hVc
                      go_wp2_with fail
                      refine hfitc.out.mono ?_
                      rintro e w5 ⟨rfl, hb5⟩
                      clear y0 y1 y2 y3 y4 y5 y6 y7 z0 z1 z2 z3 z4 hfitc
                      by_cases hF0 : F = 0
                      · have dF : ((F : Int) != 0) = false := by simp [hF0]
                        have hV5 := kV.out w5 hb5
                        have z0 := hV5.cell (o := 0) rfl
                        have z1 := hV5.cell (o := 1) rfl
                        have z2 := hV5.cell (o := 2) rfl
                        have z3 := hV5.cell (o := 3) rfl
                        have z4 := hV5.cell (o := 4) rfl
                        have hR5 := (hRd5.out w5 hb5).alloc (.cells #[.int .i64 (vt : Int), .bool vn, .int .i64 vi, .string vx, .bool vb] 54)
                        have hN5 := Has.new w5 [.int .i64 (vt : Int), .bool vn, .int .i64 vi, .string vx, .bool vb] 54
                        have ho5 := hR5.o
                        have hby : (k + 1) * 48 ≤ 140737488355328 := by omega
                        have hfin5 : ∀ sa' sc' w6, RowB W 54 5 (k + 1) (rvCells r ++ [.int .i64 (vt : Int), .bool vn, .int .i64 vi, .string vx, .bool vb]) sa' sc' w6 → RefS W (V : Int) cs nb (p.drop 3) (k + 1) sa' sc' a' (rn - N) (rc - N) (r ++ [⟨vt, vn, vi, vx, vb⟩]) (q.drop N) w6 := by
                          intro sa' sc' w6 h6
                          have hS' := hS.out
                          have e1 := hS'.rn'
                          have e2 := hS'.rc'
                          have e3 := hS'.ql
                          refine ⟨hnext.out (by rw [← hF0]), by rw [List.length_append, hrk.out]; rfl, ?_, hrd'.out w6 (Rd.via hBr.out h6.b hS'.rd hS'.own), by rw [List.length_drop, ← e1], by omega, fun kk hk => ?_, fun x hx => hS'.sub x (List.mem_of_mem_drop hx), by rw [List.length_drop]; omega⟩
                          · rw [rvc_snoc]; exact h6
                          · exact hS'.own kk (hob.out kk hk)
                        replace hF0 := Lib.hid hF0
                        replace hR5 := Lib.hid hR5
                        replace hfin5 := Lib.hid hfin5
                        replace hb5 := Lib.hid hb5
                        clear hV5 kV hRd5
                        go_wp2_with (at_builtin; refine wpList_app rfl (.tmp 155) (.tmp 157) 41 rfl 54 (.agg #[.int .i64 0, .bool false, .int .i64 0, .string ByteArray.empty, .bool false]) 5 48 Tryz.underlying41 infoRVal rfl (by decide) (by decide) sa k sy (rvCells r) (by exact ho5) rfl _ 1 1 [.int .i64 (vt : Int), .bool vn, .int .i64 vi, .string vx, .bool vb] rfl rfl (by exact news_at hN5) (by simp [Value.oneCell']) (by exact hby) ?_)
                        intro sa' sc' w6 own6 only6 fresh6
                        have hR6 := hR5.out.app (m := k + 1) (ys := [.int .i64 (vt : Int), .bool vn, .int .i64 vi, .string vx, .bool vb]) own6 only6 (by simpa using fresh6)
                        have hS6 := hfin5.out sa' sc' w6 hR6
                        replace hS6 := Lib.hid hS6
                        clear hR6 own6 only6 fresh6 hN5 ho5 hR5 hfin5 z0 z1 z2 z3 z4
                        go_wp2_with fail
                        go_roundw
                        case rel => exact ⟨k + 1, sa', sc', _, _, _, _, _, by omega, rfl, rfl, by go_num, hS6.out⟩
                        case measure => simp [RowKit.intOf]; omega
                      · have dF : ((F : Int) != 0) = true := by simp [hF0]
                        have hnone := hbadv.out hF0
                        have hf := hbad.out 11 w5 (by
                          rw [hdec2.out, hnone]) (hbc.out.trans (hb5.mono hbc.out.size))
                        replace hf := Lib.hid hf
                        replace hF0 := Lib.hid hF0
                        replace hnone := Lib.hid hnone
                        clear hb5 kV hRd5
                        go_wp2_with fail
                        first | exact hf.out | (go_ret; exact hf.out) | (go_ret2; exact hf.out)
        · have hkI : ¬ (k : Int) < m := by omega
          have hke : r.length = cs.length := by have := hS.len; have := hm.out; omega
          have hd := hS.at'.done hke
          have h1 := hS.len
          have hRk := hS.row
          have h2 := hS.rn'
          have hkm' : k = m := by omega
          have hbk := hS.row.b
          have hfin : refOk (V : Int) cs nb (p.drop 3) = some r → post (.returned (.tuple #[.slice sa k sy, .int .i64 0])) wr := by
            intro h
            rw [← hpost.out]
            have e : rdecP ver cs p = (r, 0) := by rw [hdec2.out, h]
            rw [e]
            unfold RDecPost
            simp only [h1]
            exact ⟨sa, sy, rfl, hRk⟩
          have hno : refOk (V : Int) cs nb (p.drop 3) = none → post (.returned (.tuple #[.slice none 0 0, .int .i64 11])) wr := by
            intro h
            exact hbad.out 11 wr (by rw [hdec2.out, h]) hbk
          have hm64 : m < 64 := by omega
          have ek : ((nb : Int) / 2 ^ m) = ((nb / 2 ^ m : Nat) : Int) := by simp
          rw [← hm.out] at hd
          have hmm0 : decide ((m : Int) < 0) = false := decide_eq_false (by omega)
          by_cases hq : rn = 0
          · have hqn : q = [] := List.eq_nil_of_length_eq_zero (by omega)
            have d1 : decide ((rn : Int) > 0) = false := decide_eq_false (by omega)
            have d2 : decide ((0 : Int) < (rn : Int)) = false := decide_eq_false (by omega)
            have d2' : decide (0 < rn) = false := decide_eq_false (by omega)
            by_cases hz : nb / 2 ^ m = 0
            · have d3 : (((nb : Int) / 2 ^ m) != 0) = false := by rw [ek, hz]; rfl
              have hf := hfin (by rw [hd, if_pos ⟨hqn, hz⟩])
              replace hf := Lib.hid hf
              replace hd := Lib.hid hd
              replace hke := Lib.hid hke
              replace h1 := Lib.hid h1
              replace h2 := Lib.hid h2
              replace hz := Lib.hid hz
              replace hqn := Lib.hid hqn
              replace hq := Lib.hid hq
              replace hkm' := Lib.hid hkm'
              replace ek := Lib.hid ek
              clear hfin hno hS hRk hbk
              go_wp2_with fail
              first | exact hf.out | (go_ret; exact hf.out) | (go_ret2; exact hf.out)
            · have d3 : (((nb : Int) / 2 ^ m) != 0) = true := by rw [ek]; simp only [bne_iff_ne, ne_eq]; omega
              have hf := hno (by rw [hd, if_neg (fun h => hz h.2)])
              replace hf := Lib.hid hf
              replace hd := Lib.hid hd
              replace hke := Lib.hid hke
              replace h1 := Lib.hid h1
              replace h2 := Lib.hid h2
              replace hz := Lib.hid hz
              replace hqn := Lib.hid hqn
              replace hq := Lib.hid hq
              replace hkm' := Lib.hid hkm'
              replace ek := Lib.hid ek
              clear hfin hno hS hRk hbk
              go_wp2_with fail
              first | exact hf.out | (go_ret; exact hf.out) | (go_ret2; exact hf.out)
          · have hqn : ¬ q = [] := fun h => hq (by rw [h2, h]; rfl)
            have d1 : decide ((rn : Int) > 0) = true := decide_eq_true (by omega)
            have d2 : decide ((0 : Int) < (rn : Int)) = true := decide_eq_true (by omega)
            have d2' : decide (0 < rn) = true := decide_eq_true (by omega)
            have hf := hno (by rw [hd, if_neg (fun h => hqn h.1)])
            replace hf := Lib.hid hf
            replace hd := Lib.hid hd
            replace hke := Lib.hid hke
            replace h1 := Lib.hid h1
            replace h2 := Lib.hid h2
            replace hqn := Lib.hid hqn
            replace hq := Lib.hid hq
            replace hkm' := Lib.hid hkm'
            replace ek := Lib.hid ek
            clear hfin hno hS hRk hbk
            go_wp2_with fail
            first | exact hf.out | (go_ret; exact hf.out) | (go_ret2; exact hf.out)
end Go.Proofs.YtpjbcadelmjmfaaGreatDoor
