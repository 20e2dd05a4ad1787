/- The walk of Decode. -/
import Derived.Test.YtpjbcadelmjmfaaGreatDoorR40
import Derived.Test.YtpjbcadelmjmfaaGreatDoorR12
import Derived.Test.YtpjbcadelmjmfaaGreatDoorR16
import Derived.Test.YtpjbcadelmjmfaaGreatDoorR5
namespace Go.Proofs.YtpjbcadelmjmfaaGreatDoor
open Go.RowKit Go.Lib Go.BigFrame
set_option linter.unusedVariables false

def DecPost (w : World) (x : List RV × Nat) (e : Ending) (w' : World) : Prop := ∃ a c, e = .returned (.tuple #[.slice a x.1.length c, .int .i64 (x.2 : Nat)]) ∧ RowB w 50 5 x.1.length (vCells x.1) a c w'
theorem DecPost.bad {w w' : World} {x : List RV × Nat} (k : Nat) (h : x = ([], k)) (hb : Below w.heap.size w w') : DecPost w x (.returned (.tuple #[.slice none 0 0, .int .i64 (k : Int)])) w' := by
  subst h
  exact ⟨none, 0, rfl, RowB.nil' hb _ _⟩
theorem lax_size (ty : Nat) (q : List Nat) : (laxP ty q).1.tx.size ≤ q.length ∧ (laxP ty q).2.length ≤ q.length := by
  by_cases h1 : ty = 1
  · subst h1
    have e : laxP 1 q = if q.length < 4 then (zeroV 1 false, []) else ({ zeroV 1 false with n := i32 (q.getD 0 0) (q.getD 1 0) (q.getD 2 0) (q.getD 3 0) }, q.drop 4) := rfl
    rw [e]
    by_cases h : q.length < 4
    · rw [if_pos h]; exact ⟨Nat.zero_le _, Nat.zero_le _⟩
    · rw [if_neg h]
      exact ⟨Nat.zero_le _, by rw [List.length_drop]; omega⟩
  · by_cases h2 : ty = 2
    · subst h2
      by_cases h0 : 0 < q.length
      · rw [lax_text h0]
        split
        · exact ⟨Nat.zero_le _, Nat.zero_le _⟩
        · refine ⟨?_, by rw [List.length_drop]; omega⟩
          show (strOfNats _).size ≤ _
          rw [size_strOfNats, List.length_drop, List.length_take]; omega
      · rw [List.eq_nil_of_length_eq_zero (show q.length = 0 by omega)]
        exact ⟨Nat.zero_le _, Nat.zero_le _⟩
    · rw [lax_other h1 h2]
      split
      · exact ⟨Nat.zero_le _, Nat.zero_le _⟩
      · exact ⟨Nat.zero_le _, by rw [List.length_drop]; omega⟩
theorem decV_size (ty nb k : Nat) (q : List Nat) : (decV ty nb k q).1.tx.size ≤ q.length ∧ (decV ty nb k q).2.length ≤ q.length := by
  unfold decV
  split
  · exact ⟨Nat.zero_le _, Nat.le_refl _⟩
  · exact lax_size ty q
/-- What the loop of Decode holds. -/
structure DecS (W : World) (ver : Int) (cs : List CV) (nb : Nat) (p : List Nat) (k : Nat) (sa : Option Addr) (sc : Nat) (ra : Option Addr) (rn rc : Nat) (r : List RV) (q : List Nat) (wr : World) : Prop where
  at' : DecAt ver cs nb p r q
  len : r.length = k
  row : RowB W 50 5 k (vCells r) sa sc wr
  rd : Rd wr (.slice ra rn rc) rn (bcells q)
  rn' : rn = q.length
  rc' : rn ≤ rc
  own : ∀ kk, Value.ownBlock (.slice ra rn rc) = some kk → kk < W.heap.size
  ok : ∀ v ∈ r, formP v = 0
  sub : ∀ x ∈ q, x < 256
  ql : q.length ≤ 1000000

theorem and_bit (nb k : Nat) (h : nb < 256) : (bits .and .u8 ((nb : Int) / 2 ^ k) 1 == 1) = decide (nb / 2 ^ k % 2 = 1) := by
  have e : ((nb : Int) / 2 ^ k) = ((nb / 2 ^ k : Nat) : Int) := by simp
  rw [e]
  have hy : nb / 2 ^ k < 256 := Nat.lt_of_le_of_lt (Nat.div_le_self _ _) h
  generalize nb / 2 ^ k = y at *
  have h1 : (BitVec.ofInt 8 (y : Int)).toNat = y := by
    rw [BitVec.ofInt_natCast, BitVec.toNat_ofNat]; exact Nat.mod_eq_of_lt (by omega)
  have h2 : (BitVec.ofInt 8 1).toNat = 1 := rfl
  have h3 : bits .and .u8 (y : Int) 1 = ((y % 2 : Nat) : Int) := by
    show IntKind.u8.wrap ((BitVec.ofInt 8 (y : Int) &&& BitVec.ofInt 8 1).toNat : Int) = _
    rw [BitVec.toNat_and, h1, h2, Nat.and_one_is_mod, IntKind.wrap_u8']
    omega
  rw [h3, Bool.eq_iff_iff, beq_iff_eq, decide_eq_true_eq]
  omega
set_option maxRecDepth 100000 in
/-- l[k:], of columns. -/
theorem cut_cols (bl ol m c k : Nat) (cs : List CV) (hm : m = cs.length) (hk : k ≤ m) (hc : m ≤ c) :
    ∃ a', (∀ wx, (Instr.slice 27 (.slice (some ⟨bl, ol, none⟩) m c) (some (.int .i64 (k : Int))) none none).run Tryz.prog wx = .ok (.slice a' (m - k) (c - k)) wx) ∧
      ∀ w', Rd w' (.slice (some ⟨bl, ol, none⟩) m c) m (cCells cs) → Rd w' (.slice a' (m - k) (c - k)) (m - k) (cCells (cs.drop k)) := by
  have hr := fun wx => run_slice_l (P := Tryz.prog) wx 27 (some ⟨bl, ol, none⟩) m c Tryz.underlying27 .i64 (k : Int) (by omega) (by omega)
  refine ⟨if c = k then some ⟨bl, ol, none⟩ else some ⟨bl, ol + k * 9, none⟩, fun wx => ?_, fun w' h => ?_⟩
  · rw [hr wx]
    have : (sizeOf (Tryz.prog.elem 27)).run Tryz.prog wx = .ok 9 wx := by simp [go_sem]
    rw [this]
    simp only [Result.andThen, sliced, Int.toNat_natCast]
    by_cases h : c = k
    · rw [if_pos h, if_pos h]
    · rw [if_neg h, if_neg h]
      simp [Addr.add]
  · by_cases h0 : m = k
    · have h2 : cCells (cs.drop k) = [] := by rw [List.drop_eq_nil_of_le (by omega)]; rfl
      have h1 : m - k = 0 := by omega
      rw [h2, h1]
      exact ⟨_, _, rfl, .inl ⟨rfl, rfl⟩⟩
    · rw [if_neg (by omega)]
      obtain ⟨b, off, cap, e, hcell⟩ := h.cells (by omega)
      simp only [Value.slice.injEq, Option.some.injEq, Addr.mk.injEq, and_true, true_and] at e
      obtain ⟨⟨rfl, rfl⟩, _⟩ := e
      refine ⟨_, _, rfl, .inr ⟨_, _, rfl, fun j u hj => ?_⟩⟩
      have e1 : cCells cs = cCells (cs.take k) ++ cCells (cs.drop k) := by
        unfold cCells
        rw [← List.flatMap_append, List.take_append_drop]
      have hl : (cCells (cs.take k)).length = k * 9 := by
        have := flat_len (f := CV.cells) (n := 9) (fun _ => rfl) (cs.take k)
        rw [List.length_take, Nat.min_eq_left (by omega)] at this
        exact this
      have h3 : (cCells cs)[k * 9 + j]? = some u := by
        rw [e1, List.getElem?_append_right (by omega), hl, Nat.add_sub_cancel_left]; exact hj
      have h4 := hcell _ _ h3
      rw [Nat.add_assoc]
      exact h4
theorem Rd.via {W w1 w2 : World} {v : Value} {n : Nat} {cells : List Value} (h1 : Below W.heap.size W w1) (h2 : Below W.heap.size W w2) (h : Rd w1 v n cells) (hs : ∀ k, v.ownBlock = some k → k < W.heap.size) : Rd w2 v n cells := by
  obtain ⟨a, cap, rfl, h⟩ := h
  refine ⟨a, cap, rfl, ?_⟩
  rcases h with h | ⟨b, off, rfl, h⟩
  · exact .inl h
  · refine .inr ⟨b, off, rfl, fun j u hj => ?_⟩
    have hlt := hs b rfl
    rw [h2.cell (p := ⟨b, off + j, none⟩) hlt, ← h1.cell (p := ⟨b, off + j, none⟩) hlt]
    exact h j u hj
set_option maxHeartbeats 8000000 in
set_option maxRecDepth 100000 in
theorem decode_any (tn : ByteArray) (t0 : Nat) (hn : One tn t0) (ver : Nat) (cs : List CV) (hg : TG ver cs) (ca : Option Addr) (cc : Nat) (hcc : cs.length ≤ cc) (p : List Nat) (hp : ∀ x ∈ p, x < 256) (hpl : p.length ≤ 1000000)
    (pa : Option Addr) (pc : Nat) (hpc : p.length ≤ pc) (w : World) (hE : Env w) (hr : Rd w (.slice ca cs.length cc) cs.length (cCells cs)) (hrp : Rd w (.slice pa p.length pc) p.length (bcells p)) :
    Calls Tryz.prog 31 #[.agg #[.string tn, .int .i64 (ver : Int), .slice ca cs.length cc, .slice none 0 0, .int .u64 0, .int .u64 0], .slice pa p.length pc] w (DecPost w (decP ver cs p)) := by
  generalize hpost : DecPost w (decP ver cs p) = post
  replace hpost := Lib.hid hpost
  have hbad : ∀ (k : Nat) w', decP ver cs p = ([], k) → Below w.heap.size w w' → post (.returned (.tuple #[.slice none 0 0, .int .i64 (k : Int)])) w' := by
    intro k w' h hb
    rw [← hpost.out]
    exact DecPost.bad k h hb
  obtain ⟨W, hW⟩ : ∃ W, W = w.alloc (.cells #[.string tn, .int .i64 (ver : Int), .slice ca cs.length cc, .slice none 0 0, .int .u64 0, .int .u64 0] 32) := ⟨_, rfl⟩
  have hT : Has W w.heap.size [.string tn, .int .i64 (ver : Int), .slice ca cs.length cc, .slice none 0 0, .int .u64 0, .int .u64 0] 32 := by rw [hW]; exact Has.new w _ _
  have hBW : Below w.heap.size w W := by rw [hW]; exact (Below.refl _ _).alloc (Nat.le_refl _) _
  have hEW := hE.below hBW
  have hrW := hr.kept hBW
  have hrW0 := hrW
  have hv := tabvalid_any tn t0 hn (ver : Int) cs hg.ok hg.pos 0 hg.vok ca cc W hrW hEW
  have hver := hg.vok
  have hlt := hg.lt
  have hm8 := hg.ok.len
  obtain ⟨m, hm⟩ : ∃ m, m = cs.length := ⟨_, rfl⟩
  obtain ⟨n, hnn⟩ : ∃ n, n = p.length := ⟨_, rfl⟩
  rw [← hm] at hW hT hrW hv hcc hm8 ⊢
  rw [← hnn] at hrp hpl hpc ⊢
  have kT := fun w' (hb : Below W.heap.size W w') => hT.only (Only.of_below hb) (Nat.not_le.2 hT.lt)
  have t0 := hT.cell (o := 0) rfl
  have t1 := hT.cell (o := 1) rfl
  have t2 := hT.cell (o := 2) rfl
  have t3 := hT.cell (o := 3) rfl
  have t4 := hT.cell (o := 4) rfl
  have t5 := hT.cell (o := 5) rfl
  replace hW := Lib.hid hW
  replace hv := Lib.hid hv
  replace hbad := Lib.hid hbad
  replace hm := Lib.hid hm
  replace hnn := Lib.hid hnn
  replace hBW := Lib.hid hBW
  replace kT := Lib.hid kT
  clear hver hT hE
  go_enter Tryz.func31, Tryz.ntmps31
  go_upto_region 1 with fail
  rw [← hW.out]
  go_wp2_with fail
  refine hv.out.mono ?_
  rintro e w1 ⟨rfl, hb1⟩
  have Kt := kT.out w1 hb1
  clear t0 t1 t2 t3 t4 t5 hv
  have t1 := Kt.cell (o := 1) rfl
  have t2 := Kt.cell (o := 2) rfl
  have hbw1 := hBW.out.trans (hb1.mono hBW.out.size)
  clear Kt
  by_cases h3 : n < 3
  · have d3 : decide ((n : Int) < 3) = true := decide_eq_true (by omega)
    have hf := hbad.out 11 w1 (by unfold decP; rw [if_pos (by have := hnn.out; omega)]) hbw1
    replace hf := Lib.hid hf
    clear hbw1 hb1
    go_wp2_with fail
    first | exact hf.out | (go_ret; exact hf.out) | (go_ret2; exact hf.out)
  · have d3 : decide ((n : Int) < 3) = false := decide_eq_false (by omega)
    have hn3 : 3 ≤ p.length := by have := hnn.out; omega
    obtain ⟨bp, op, rfl, hcell⟩ := byte_cell (by rw [← hnn.out]; exact hrp.kept hbw1) (by omega)
    have c0 := hcell 0 (by omega)
    have c1 := hcell 1 (by omega)
    have c2 := hcell 2 (by omega)
    rw [Nat.add_zero] at c0
    have hx0 := hp (p.getD 0 0) (List.mem_of_getElem? (get_lt 0 (by omega)))
    have hx1 := hp (p.getD 1 0) (List.mem_of_getElem? (get_lt 0 (by omega)))
    have hx2 := hp (p.getD 2 0) (List.mem_of_getElem? (get_lt 0 (by omega)))
    obtain ⟨V, hV⟩ : ∃ V, V = p.getD 0 0 + 256 * p.getD 1 0 := ⟨_, rfl⟩
    have hdec : decP ver cs p = if V = 0 ∨ ver < V then ([], 14) else match progOk (V : Int) cs (p.getD 2 0) (p.drop 3) with | none => ([], 11) | some r => (r, 0) := by
      unfold decP
      rw [if_neg (by omega), hV]
      rfl
    have hence := fun r => enc_eq V r p (by omega) hp hV
    generalize p.getD 0 0 = x0 at *
    generalize p.getD 1 0 = x1 at *
    obtain ⟨nb, hnb2⟩ : ∃ nb, nb = p.getD 2 0 := ⟨_, rfl⟩
    rw [← hnb2] at c2 hx2 hdec hence
    have ho := or_i64 x0 x1 hx0 hx1
    have q0 : 0 < n := by omega
    have q1 : 1 < n := by omega
    have q2 : (0 : Int) < n := by omega
    have q3 : (1 : Int) < n := by omega
    replace hdec := Lib.hid hdec
    replace hence := Lib.hid hence
    replace hV := Lib.hid hV
    replace hnb2 := Lib.hid hnb2
    replace ho := Lib.hid ho
    replace hbw1 := Lib.hid hbw1
    replace hb1 := Lib.hid hb1
    clear hcell
    go_upto_region 5 with fail
    refine region_tail 10 (by kernel_rfl) (by kernel_rfl) ?_
    simp only [List.take_succ_cons, List.take_zero, List.drop_succ_cons, List.drop_zero]
    repeat still_step
    refine wpStill_nil ?_
    have hVe : bits .or .i64 (IntKind.i64.wrap (x0 : Int)) (IntKind.i64.wrap (IntKind.i64.wrap (x1 : Int) * 256)) = (V : Int) := by
      rw [IntWalk.i64_in (x0 : Int) (by omega), IntWalk.i64_in (x1 : Int) (by omega), IntWalk.i64_in ((x1 : Int) * 256) (by omega), ho.out]
      have := hV.out
      omega
    rw [hVe]
    clear hVe c0 c1
    have hnb : ((V : Int) == 0) = decide (V = 0) := by rw [Bool.eq_iff_iff]; simp
    by_cases hV0 : V = 0 ∨ ver < V
    · have hf := fun w' hb => hbad.out 14 w' (by rw [hdec.out, if_pos hV0]) hb
      have hf1 := hf _ (below_drew hbw1.out)
      replace hf1 := Lib.hid hf1
      clear hf
      by_cases hz : V = 0
      · have g0 : ((V : Int) == 0) = true := by rw [hnb]; simp [hz]
        replace hz := Lib.hid hz
        replace hV0 := Lib.hid hV0
        clear hnb
        go_wp2_with fail
        first | exact hf1.out | (go_ret; exact hf1.out) | (go_ret2; exact hf1.out)
      · have g0 : ((V : Int) == 0) = false := by rw [hnb]; simp [hz]
        have g1 : decide ((V : Int) > (ver : Int)) = true := decide_eq_true (by omega)
        have g2 : decide ((ver : Int) < (V : Int)) = true := decide_eq_true (by omega)
        have g3 : decide (ver < V) = true := decide_eq_true (by omega)
        replace hz := Lib.hid hz
        replace hV0 := Lib.hid hV0
        clear hnb
        go_wp2_with fail
        first | exact hf1.out | (go_ret; exact hf1.out) | (go_ret2; exact hf1.out)
    · have g0 : ((V : Int) == 0) = false := by rw [hnb]; simp; omega
      have g1 : decide ((V : Int) > (ver : Int)) = false := decide_eq_false (by omega)
      have g2 : decide ((ver : Int) < (V : Int)) = false := decide_eq_false (by omega)
      have g3 : decide (ver < V) = false := decide_eq_false (by omega)
      have hdec2 := hdec.out
      rw [if_neg hV0] at hdec2
      replace hdec2 := Lib.hid hdec2
      replace hV0 := Lib.hid hV0
      clear hnb hdec
      obtain ⟨q', hsl, hob, hrd⟩ := cut_from bp op n pc 3 3 rfl p hnn.out (by omega) hpc
      replace hob := Lib.hid hob
      replace hrd := Lib.hid hrd
      obtain ⟨w2, hw2⟩ : ∃ w2, w2 = w1.drew := ⟨_, rfl⟩
      have hb2 : Below W.heap.size W w2 := by rw [hw2]; exact below_drew hb1.out
      have hrp2 : Rd w2 (.slice (some ⟨bp, op, none⟩) n pc) n (bcells p) := by rw [hw2]; exact hrp.kept (below_drew hbw1.out)
      have hbpl : bp < W.heap.size := by
        have h := hrp.cells (by omega)
        obtain ⟨b', o', c', e', h'⟩ := h
        simp only [Value.slice.injEq, Option.some.injEq, Addr.mk.injEq, and_true, true_and] at e'
        obtain ⟨⟨rfl, rfl⟩, _⟩ := e'
        have h1 := World.block_lt_of_cell? _ _ (h' 0 _ (bcells_get p 0 (by omega)))
        exact Nat.lt_of_lt_of_le h1 hBW.out.size
      have hcell2 : ∀ wx, Below W.heap.size W wx → wx.cell? ⟨bp, op + 2, none⟩ = some (.int .u8 (nb : Int)) := by
        intro wx hb
        have h := hrp.kept (hBW.out.trans (hb.mono hBW.out.size))
        rw [hnn.out] at h
        obtain ⟨b', o', e', h'⟩ := byte_cell h (by omega)
        simp only [Option.some.injEq, Addr.mk.injEq, and_true] at e'
        obtain ⟨rfl, rfl⟩ := e'
        rw [h' 2 (by omega), ← hnb2.out]
      replace hcell2 := Lib.hid hcell2
      have hp0 : DecS W (V : Int) cs nb (p.drop 3) 0 none 0 q' (n - 3) (pc - 3) [] (p.drop 3) w2 :=
        ⟨DecAt.nil _ _ _ _, rfl, RowB.nil' hb2 _ _, hrd.out w2 hrp2, by rw [List.length_drop, hnn.out], by omega, fun kk hk => by rw [hob.out kk hk]; exact hbpl, by simp, fun x hx => hp x (List.mem_of_mem_drop hx), by rw [List.length_drop, ← hnn.out]; omega⟩
      have t2' := (kT.out w2 hb2).cell (o := 2) rfl
      replace hp0 := Lib.hid hp0
      replace hbpl := Lib.hid hbpl
      replace hb2 := Lib.hid hb2
      replace hrp2 := Lib.hid hrp2
      clear hrd hob
      obtain ⟨n3, hn3e⟩ : ∃ n3, n3 = n - 3 := ⟨_, rfl⟩
      obtain ⟨c3, hc3e⟩ : ∃ c3, c3 = pc - 3 := ⟨_, rfl⟩
      rw [← hn3e, ← hc3e] at hsl hp0
      replace hw2 := Lib.hid hw2
      replace hn3e := Lib.hid hn3e
      replace hc3e := Lib.hid hc3e
      go_upto_block 0 with fail
      rw [← hw2.out]
      clear t1 t2 t2'
      have t2 := (kT.out w2 hb2.out).cell (o := 2) rfl
      go_cut [7] (fun x wx => ∃ (k : Nat) (sa : Option Addr) (sc : Nat) (r : List RV), k ≤ m ∧ x = .slice sa k sc ∧ r.length = k ∧ decGo (V : Int) cs nb (p.drop 3) = some r ∧ RowB W 50 5 k (vCells r) sa sc wx ∧ ∀ v ∈ r, formP v = 0)
      case first =>
        go_wp2_with fail
        go_loopw [7, 8, 43] (fun x y i wr => ∃ (k : Nat) (sa : Option Addr) (sc : Nat) (ra : Option Addr) (rn rc : Nat) (r : List RV) (q : List Nat), k ≤ m ∧ i = .int .i64 k ∧ x = .slice sa k sc ∧ y = .slice ra rn rc ∧ DecS W (V : Int) cs nb (p.drop 3) k sa sc ra rn rc r q wr) (fun _ _ i _ => m - (RowKit.intOf i).toNat)
        case atStart => exact ⟨0, _, _, _, _, _, _, _, by omega, rfl, rfl, rfl, hp0.out⟩
        case round =>
          clear hp0
          obtain ⟨k, sa, sy, ra, rn, rc, r, q, hk, rfl, rfl, rfl, hS⟩ := hrel
          by_cases hkm : k < m
          · have hlI : (k : Int) < m := by omega
            have hkc : k < cs.length := by have := hm.out; omega
            have hrk : r.length = k := hS.len
            have hrl : r.length < cs.length := by omega
            have hBr := hS.row.b
            obtain ⟨bl, ol, cl, ea, fa⟩ := (hrW0.kept hBr).col hkc
            simp only [Value.slice.injEq, true_and] at ea
            obtain ⟨rfl, hcap⟩ := ea
            replace hcap := Lib.hid hcap
            have hstop := hS.at'.stop hrl
            have hbadv := hS.at'.bad hrl
            have hnext := hS.at'.next hrl
            rw [hrk] at hstop hbadv hnext
            have hc := fun j v hj => fa j v hj
            have hfit3 := hg.ok.fit k hkc
            generalize cs.getD k CV0 = c at *
            obtain ⟨nm, ty, nl, sc, ⟨dty, dnl, dn, dtx, db⟩⟩ := c
            simp only at hstop hbadv hnext
            have c0 : wr.cell? ⟨bl, ol + k * 9, none⟩ = _ := hc 0 _ rfl
            have c1 := hc 1 _ rfl
            have c2' := hc 2 _ rfl
            have c3' := hc 3 _ rfl
            have c4 := hc 4 _ rfl
            have c5 := hc 5 _ rfl
            have c6 := hc 6 _ rfl
            have c7 := hc 7 _ rfl
            have c8 := hc 8 _ rfl
            obtain ⟨A, hA⟩ : ∃ A, A = wr.alloc (.cells #[.string nm, .int .u8 (ty : Int), .bool nl, .int .i64 sc, .int .u8 (dty : Int), .bool dnl, .int .i64 dn, .string dtx, .bool db] 78) := ⟨_, rfl⟩
            have hN : Has A wr.heap.size [.string nm, .int .u8 (ty : Int), .bool nl, .int .i64 sc, .int .u8 (dty : Int), .bool dnl, .int .i64 dn, .string dtx, .bool db] 78 := by rw [hA]; exact Has.new wr _ _
            have hbrA : Below wr.heap.size wr A := by rw [hA]; exact (Below.refl _ _).alloc (Nat.le_refl _) _
            have hRA : RowB W 50 5 k (vCells r) sa sy A := hS.row.below hbrA
            have hBA := hRA.b
            have cp2 := hcell2.out A hBA
            have n3' := hN.cell (o := 3) rfl
            by_cases hvs : (V : Int) < sc
            · have hd := hstop hvs
              have h3 := hS.ok
              have g1 : decide (sc > (V : Int)) = true := decide_eq_true (by omega)
              have g2 : decide ((V : Int) < sc) = true := decide_eq_true hvs
              replace hd := Lib.hid hd
              replace hvs := Lib.hid hvs
              replace h3 := Lib.hid h3
              replace hrk := Lib.hid hrk
              replace hA := Lib.hid hA
              replace hRA := Lib.hid hRA
              clear hstop hbadv hnext hS hc fa hBr hrl hfit3 hN hbrA hBA
              go_upto_region 13 with fail
              rw [← hA.out]
              go_wp2_with fail
              go_meet
              exact ⟨k, sa, sy, r, by omega, rfl, hrk.out, hd.out, hRA.out, h3.out⟩
            · have g1 : decide (sc > (V : Int)) = false := decide_eq_false (by omega)
              have g2 : decide ((V : Int) < sc) = false := decide_eq_false hvs
              have n1' := hN.cell (o := 1) rfl
              have hk8 : k < 8 := by omega
              have cp2a : (A.alloc (.cells #[.int .u8 0, .bool false, .int .i64 0, .string ⟨#[]⟩, .bool false] 50)).cell? ⟨bp, op + 2, none⟩ = _ := hcell2.out _ (hBA.alloc hBA.size _)
              have n1a : (A.alloc (.cells #[.int .u8 0, .bool false, .int .i64 0, .string ⟨#[]⟩, .bool false] 50)).cell? ⟨wr.heap.size, 1, none⟩ = _ := (hN.alloc _).cell (o := 1) rfl
              replace hA := Lib.hid hA
              clear hstop
              replace hrk := Lib.hid hrk
              replace hRA := Lib.hid hRA
              replace hvs := Lib.hid hvs
              replace hbadv := Lib.hid hbadv
              replace hnext := Lib.hid hnext
              replace hN := Lib.hid hN
              replace hBA := Lib.hid hBA
              replace hbrA := Lib.hid hbrA
              replace hBr := Lib.hid hBr
              replace hS := Lib.hid hS
              have q5 : 2 < n := by omega
              have q6 : (2 : Int) < n := by omega
              clear hc fa
              go_upto_region 14 with fail
              rw [← hA.out]
              clear c0 c1 c2' c3' c4 c5 c6 c7 c8
              go_region
              clear cp2a n1a
              have hbit := and_bit nb k hx2
              obtain ⟨bB, hbB⟩ : ∃ bB, bB = decide (nb / 2 ^ k % 2 = 1) := ⟨_, rfl⟩
              rw [← hbB] at hbit
              rw [hbit]
              clear hbit
              obtain ⟨A2, hA2⟩ : ∃ A2, A2 = (A.alloc (.cells #[.int .u8 (ty : Int), .bool bB, .int .i64 0, .string ⟨#[]⟩, .bool false] 50)).drew := ⟨_, rfl⟩
              rw [← hA2]
              have hV2 : Has A2 A.heap.size (zeroV ty bB).cells 50 := by rw [hA2]; exact (Has.new A _ 50).drew
              have hbA2 : Below A.heap.size A A2 := by rw [hA2]; exact below_drew ((Below.refl _ _).alloc (Nat.le_refl _) _)
              have hN2 := hN.out.only (Only.of_below hbA2) (Nat.not_le.2 hN.out.lt)
              have hR2 := hRA.out.below hbA2
              have hS2 := hS.out
              have hRq2 := Rd.via hBr.out hR2.b hS2.rd hS2.own
              have h1 := hS2.rn'
              have h2 := hS2.rc'
              have h3 := hS2.own
              have h4 := hS2.sub
              have h5 := hS2.ql
              have hsz := decV_size ty nb k q
              have hsb := decV_sub ty nb k q
              have hvb : A2.cell? ⟨A.heap.size, 1, none⟩ = some (.bool bB) := hV2.cell (o := 1) rfl
              replace hA2 := Lib.hid hA2
              replace hRq2 := Lib.hid hRq2
              replace hR2 := Lib.hid hR2
              replace hbA2 := Lib.hid hbA2
              clear hS2 cp2 n3' n1' hfit3
              cases bB with
              | true =>
                have hde : decV ty nb k q = (zeroV ty true, q) := by unfold decV; rw [if_pos (of_decide_eq_true hbB.symm)]
                replace hbB := Lib.hid hbB
                replace hbadv := hbadv.out
                replace hnext := hnext.out
                rw [hde] at hbadv hnext
                simp only at hbadv hnext
                obtain ⟨v, hv⟩ : ∃ v, v = zeroV ty true := ⟨_, rfl⟩
                rw [← hv] at hbadv hnext hV2
                have hvx : v.tx.size ≤ 9223372036854775807 := by rw [hv]; exact Nat.zero_le _
                obtain ⟨A3, hA3⟩ : ∃ A3, A3 = A2 := ⟨_, rfl⟩
                have hVc : Has A3 A.heap.size v.cells 50 := by rw [hA3]; exact hV2
                have hNc := hN2
                rw [← hA3] at hNc hvb ⊢
                have hRc := hR2.out
                rw [← hA3] at hRc
                obtain ⟨ra3, hra3⟩ : ∃ x, x = ra := ⟨_, rfl⟩
                obtain ⟨rn3, hrn3e⟩ : ∃ x, x = rn := ⟨_, rfl⟩
                obtain ⟨rc3, hrc3e⟩ : ∃ x, x = rc := ⟨_, rfl⟩
                obtain ⟨q3, hq3⟩ : ∃ x, x = q := ⟨_, rfl⟩
                have hRq := hRq2.out
                rw [← hA3] at hRq
                rw [← hra3, ← hrn3e, ← hrc3e]
                rw [← hra3, ← hrn3e, ← hrc3e, ← hq3] at hRq
                rw [← hra3, ← hrn3e, ← hrc3e] at h3
                rw [← hrn3e, ← hq3] at h1
                rw [← hrn3e, ← hrc3e] at h2
                rw [← hq3] at h4 h5 hnext
                have hown3 := Lib.hid h3
                have hrn3 := Lib.hid h1
                have hrc3 := Lib.hid h2
                have hsub3 := Lib.hid h4
                have hql3 := Lib.hid h5
                replace hv := Lib.hid hv
                replace hA3 := Lib.hid hA3
                replace hra3 := Lib.hid hra3
                replace hrn3e := Lib.hid hrn3e
                replace hrc3e := Lib.hid hrc3e
                replace hq3 := Lib.hid hq3
                replace hsz := Lib.hid hsz
                replace hsb := Lib.hid hsb
                clear h1 h2 h3 h4 h5 hde hV2 hN2 hR2 hRq2
                go_upto_region 17 with fail
                clear hvb
                obtain ⟨vt, vn, vi, vx, vb⟩ := v
                have hvs2 : vx.size ≤ 9223372036854775807 := hvx
                have hbc := hRc.b
                have hfitc := fits_any nm ty nl sc ⟨dty, dnl, dn, dtx, db⟩ vt vn vi vx vb hvs2 A3 (hEW.below hbc)
                obtain ⟨F, hF⟩ : ∃ F, F = fitsP ty nl ⟨vt, vn, vi, vx, vb⟩ := ⟨_, rfl⟩
                rw [← hF] at hfitc hbadv hnext
                have y0 := hNc.cell (o := 0) rfl
                have y1 := hNc.cell (o := 1) rfl
                have y2 := hNc.cell (o := 2) rfl
                have y3 := hNc.cell (o := 3) rfl
                have y4 := hNc.cell (o := 4) rfl
                have y5 := hNc.cell (o := 5) rfl
                have y6 := hNc.cell (o := 6) rfl
                have y7 := hNc.cell (o := 7) rfl
                have y8 := hNc.cell (o := 8) rfl
                have z0 := hVc.cell (o := 0) rfl
                have z1 := hVc.cell (o := 1) rfl
                have z2 := hVc.cell (o := 2) rfl
                have z3 := hVc.cell (o := 3) rfl
                have z4 := hVc.cell (o := 4) rfl
                have kV := fun w' (hb : Below A3.heap.size A3 w') => hVc.only (Only.of_below hb) (Nat.not_le.2 hVc.lt)
                have hRd5 := fun w' (hb : Below A3.heap.size A3 w') => hRc.below hb
                replace kV := Lib.hid kV
                replace hRd5 := Lib.hid hRd5
                replace hF := Lib.hid hF
                replace hbadv := Lib.hid hbadv
                replace hnext := Lib.hid hnext
                replace hfitc := Lib.hid hfitc
                replace hRc := Lib.hid hRc
                replace hbc := Lib.hid hbc
                replace hRq := Lib.hid hRq
                clear hNc hVc
                go_wp2_with fail
                refine hfitc.out.mono ?_
                rintro e w5 ⟨rfl, hb5⟩
                clear y0 y1 y2 y3 y4 y5 y6 y7 y8 z0 z1 z2 z3 z4 hfitc
                by_cases hF0 : F = 0
                · have dF : ((F : Int) != 0) = false := by simp [hF0]
                  have hV5 := kV.out w5 hb5
                  have z0 := hV5.cell (o := 0) rfl
                  have z1 := hV5.cell (o := 1) rfl
                  have z2 := hV5.cell (o := 2) rfl
                  have z3 := hV5.cell (o := 3) rfl
                  have z4 := hV5.cell (o := 4) rfl
                  have hR5 := (hRd5.out w5 hb5).alloc (.cells #[.int .u8 (vt : Int), .bool vn, .int .i64 vi, .string vx, .bool vb] 50)
                  have hN5 := Has.new w5 [.int .u8 (vt : Int), .bool vn, .int .i64 vi, .string vx, .bool vb] 50
                  have ho5 := hR5.o
                  have hby : (k + 1) * 40 ≤ 140737488355328 := by omega
                  have hfin5 : ∀ sa' sc' w6, RowB W 50 5 (k + 1) (vCells r ++ [.int .u8 (vt : Int), .bool vn, .int .i64 vi, .string vx, .bool vb]) sa' sc' w6 → DecS W (V : Int) cs nb (p.drop 3) (k + 1) sa' sc' ra3 rn3 rc3 (r ++ [⟨vt, vn, vi, vx, vb⟩]) q3 w6 := by
                    intro sa' sc' w6 h6
                    have hS' := hS.out
                    refine ⟨hnext.out hvs.out (by rw [← hF0]), by rw [List.length_append, hrk.out]; rfl, ?_, Rd.via hbc.out h6.b hRq.out hown3.out, hrn3.out, hrc3.out, hown3.out, ?_, hsub3.out, hql3.out⟩
                    · rw [vc_snoc]; exact h6
                    · intro v hv
                      rcases List.mem_append.1 hv with hv | hv
                      · exact hS'.ok v hv
                      · rw [List.mem_singleton] at hv
                        subst hv
                        have h7 := hF.out
                        rw [hF0] at h7
                        unfold fitsP at h7
                        split at h7
                        · cases h7
                        · exact h7.symm
                  replace hF0 := Lib.hid hF0
                  replace hR5 := Lib.hid hR5
                  replace hfin5 := Lib.hid hfin5
                  replace hb5 := Lib.hid hb5
                  clear hV5 kV hRd5
                  go_wp2_with (at_builtin; refine wpList_app rfl (.tmp 71) (.tmp 73) 24 rfl 50 (.agg #[.int .u8 0, .bool false, .int .i64 0, .string ByteArray.empty, .bool false]) 5 40 Tryz.underlying24 infoVal rfl (by decide) (by decide) sa k sy (vCells r) (by exact ho5) rfl _ 1 1 [.int .u8 (vt : Int), .bool vn, .int .i64 vi, .string vx, .bool vb] rfl rfl (by exact news_at hN5) (by simp [Value.oneCell']) (by exact hby) ?_)
                  intro sa' sc' w6 own6 only6 fresh6
                  have hR6 := hR5.out.app (m := k + 1) (ys := [.int .u8 (vt : Int), .bool vn, .int .i64 vi, .string vx, .bool vb]) own6 only6 (by simpa using fresh6)
                  have hS6 := hfin5.out sa' sc' w6 hR6
                  replace hS6 := Lib.hid hS6
                  clear hR6 own6 only6 fresh6 hN5 ho5 hR5 hfin5 z0 z1 z2 z3 z4
                  go_wp2_with fail
                  go_roundw
                  case rel => exact ⟨k + 1, sa', sc', _, _, _, _, _, by omega, by go_num, rfl, rfl, hS6.out⟩
                  case measure => simp [RowKit.intOf]; omega
                · have dF : ((F : Int) != 0) = true := by simp [hF0]
                  have hnone := hbadv.out hvs.out hF0
                  have hf := hbad.out 11 w5 (by
                    rw [hdec2.out]
                    have e : progOk (V : Int) cs nb (p.drop 3) = none := by unfold progOk; rw [hnone]
                    rw [e]) (hBW.out.trans ((hbc.out.trans (hb5.mono hbc.out.size)).mono hBW.out.size))
                  replace hf := Lib.hid hf
                  replace hF0 := Lib.hid hF0
                  replace hnone := Lib.hid hnone
                  clear hb5 kV hRd5
                  go_wp2_with fail
                  first | exact hf.out | (go_ret; exact hf.out) | (go_ret2; exact hf.out)
              | false =>
                have hde : decV ty nb k q = laxP ty q := by unfold decV; rw [if_neg (of_decide_eq_false hbB.symm)]
                replace hbB := Lib.hid hbB
                replace hbadv := hbadv.out
                replace hnext := hnext.out
                rw [hde] at hbadv hnext hsz hsb
                have hpar := parse_any ty A.heap.size q h4 h5 ra rc (by omega) A2 hV2 (by rw [← h1]; exact hRq2.out) (fun kk hk => by
                  rw [← h1] at hk
                  have := h3 kk hk
                  have := hBA.out.size
                  omega)
                rw [← h1] at hpar
                obtain ⟨v, hv⟩ : ∃ v, v = (laxP ty q).1 := ⟨_, rfl⟩
                obtain ⟨q3, hq3⟩ : ∃ q3, q3 = (laxP ty q).2 := ⟨_, rfl⟩
                rw [← hv] at hbadv
                rw [← hv, ← hq3] at hnext hsz
                rw [← hq3] at hsb
                have hpar2 : Calls Tryz.prog 56 #[.pointer (some ⟨A.heap.size, 0, none⟩), .slice ra rn rc] A2 (fun e w' => ∃ a n c, e = .returned (.slice a n c) ∧ n = q3.length ∧ n ≤ c ∧ (∀ k, Value.ownBlock (.slice a n c) = some k → Value.ownBlock (.slice ra rn rc) = some k) ∧ Rd w' (.slice a n c) n (bcells q3) ∧ Only (fun k => k = A.heap.size) A2 w' ∧ Has w' A.heap.size v.cells 50) := by
                  rw [hv, hq3]; exact hpar
                have hvx : v.tx.size ≤ 9223372036854775807 := by omega
                have hq3l : q3.length ≤ 1000000 := by omega
                have hsub3 : ∀ x ∈ q3, x < 256 := fun x hx => h4 x (hsb x hx)
                replace hpar2 := Lib.hid hpar2
                replace hv := Lib.hid hv
                replace hq3 := Lib.hid hq3
                replace hsub3 := Lib.hid hsub3
                have hql3 := Lib.hid hq3l
                replace hown3 := Lib.hid h3
                replace hbadv := Lib.hid hbadv
                replace hnext := Lib.hid hnext
                replace hN2 := Lib.hid hN2
                replace hsz := Lib.hid hsz
                replace hsb := Lib.hid hsb
                clear h1 h2 h3 h4 h5 hde hpar hV2 hq3l
                go_wp2_with fail
                refine hpar2.out.mono ?_
                rintro e A3 ⟨ra3, rn3, rc3, rfl, hrn3, hrc3, hob3, hRq, hO3, hVc⟩
                have hOA : Only (fun k => k = A.heap.size) A2 A3 := hO3
                have hwrA : wr.heap.size < A.heap.size := hN.out.lt
                have hNc := hN2.out.only hOA (Nat.ne_of_lt hwrA)
                have hWA : W.heap.size ≤ A.heap.size := hBA.out.size
                have hbW3 : Below W.heap.size W A3 := hR2.out.b.trans (hOA.below (B := W.heap.size) hR2.out.b.size (fun k _ e => by rw [e]; exact hWA))
                have hRc : RowB W 50 5 k (vCells r) sa sy A3 := ⟨ownsRow_only hR2.out.o hOA (fun kk hk e => by have := ownsRow_lt hRA.out.o hk; omega), hR2.out.ob, hbW3⟩
                replace hown3 := Lib.hid (fun kk hk => hown3.out kk (hob3 kk hk))
                replace hrn3 := Lib.hid hrn3
                replace hrc3 := Lib.hid hrc3
                replace hWA := Lib.hid hWA
                replace hwrA := Lib.hid hwrA
                replace hbadv := hbadv.out
                replace hnext := hnext.out
                clear hvb hob3 hO3 hOA hpar2 hN2 hR2 hbW3 hRq2
                go_upto_region 17 with fail
                obtain ⟨vt, vn, vi, vx, vb⟩ := v
                have hvs2 : vx.size ≤ 9223372036854775807 := hvx
                have hbc := hRc.b
                have hfitc := fits_any nm ty nl sc ⟨dty, dnl, dn, dtx, db⟩ vt vn vi vx vb hvs2 A3 (hEW.below hbc)
                obtain ⟨F, hF⟩ : ∃ F, F = fitsP ty nl ⟨vt, vn, vi, vx, vb⟩ := ⟨_, rfl⟩
                rw [← hF] at hfitc hbadv hnext
                have y0 := hNc.cell (o := 0) rfl
                have y1 := hNc.cell (o := 1) rfl
                have y2 := hNc.cell (o := 2) rfl
                have y3 := hNc.cell (o := 3) rfl
                have y4 := hNc.cell (o := 4) rfl
                have y5 := hNc.cell (o := 5) rfl
                have y6 := hNc.cell (o := 6) rfl
                have y7 := hNc.cell (o := 7) rfl
                have y8 := hNc.cell (o := 8) rfl
                have z0 := hVc.cell (o := 0) rfl
                have z1 := hVc.cell (o := 1) rfl
                have z2 := hVc.cell (o := 2) rfl
                have z3 := hVc.cell (o := 3) rfl
                have z4 := hVc.cell (o := 4) rfl
                have kV := fun w' (hb : Below A3.heap.size A3 w') => hVc.only (Only.of_below hb) (Nat.not_le.2 hVc.lt)
                have hRd5 := fun w' (hb : Below A3.heap.size A3 w') => hRc.below hb
                replace kV := Lib.hid kV
                replace hRd5 := Lib.hid hRd5
                replace hF := Lib.hid hF
                replace hbadv := Lib.hid hbadv
                replace hnext := Lib.hid hnext
                replace hfitc := Lib.hid hfitc
                replace hRc := Lib.hid hRc
                replace hbc := Lib.hid hbc
                replace hRq := Lib.hid hRq
                clear hNc hVc
                go_wp2_with fail
                refine hfitc.out.mono ?_
                rintro e w5 ⟨rfl, hb5⟩
                clear y0 y1 y2 y3 y4 y5 y6 y7 y8 z0 z1 z2 z3 z4 hfitc
                by_cases hF0 : F = 0
                · have dF : ((F : Int) != 0) = false := by simp [hF0]
                  have hV5 := kV.out w5 hb5
                  have z0 := hV5.cell (o := 0) rfl
                  have z1 := hV5.cell (o := 1) rfl
                  have z2 := hV5.cell (o := 2) rfl
                  have z3 := hV5.cell (o := 3) rfl
                  have z4 := hV5.cell (o := 4) rfl
                  have hR5 := (hRd5.out w5 hb5).alloc (.cells #[.int .u8 (vt : Int), .bool vn, .int .i64 vi, .string vx, .bool vb] 50)
                  have hN5 := Has.new w5 [.int .u8 (vt : Int), .bool vn, .int .i64 vi, .string vx, .bool vb] 50
                  have ho5 := hR5.o
                  have hby : (k + 1) * 40 ≤ 140737488355328 := by omega
                  have hfin5 : ∀ sa' sc' w6, RowB W 50 5 (k + 1) (vCells r ++ [.int .u8 (vt : Int), .bool vn, .int .i64 vi, .string vx, .bool vb]) sa' sc' w6 → DecS W (V : Int) cs nb (p.drop 3) (k + 1) sa' sc' ra3 rn3 rc3 (r ++ [⟨vt, vn, vi, vx, vb⟩]) q3 w6 := by
                    intro sa' sc' w6 h6
                    have hS' := hS.out
                    refine ⟨hnext.out hvs.out (by rw [← hF0]), by rw [List.length_append, hrk.out]; rfl, ?_, Rd.via hbc.out h6.b hRq.out hown3.out, hrn3.out, hrc3.out, hown3.out, ?_, hsub3.out, hql3.out⟩
                    · rw [vc_snoc]; exact h6
                    · intro v hv
                      rcases List.mem_append.1 hv with hv | hv
                      · exact hS'.ok v hv
                      · rw [List.mem_singleton] at hv
                        subst hv
                        have h7 := hF.out
                        rw [hF0] at h7
                        unfold fitsP at h7
                        split at h7
                        · cases h7
                        · exact h7.symm
                  replace hF0 := Lib.hid hF0
                  replace hR5 := Lib.hid hR5
                  replace hfin5 := Lib.hid hfin5
                  replace hb5 := Lib.hid hb5
                  clear hV5 kV hRd5
                  go_wp2_with (at_builtin; refine wpList_app rfl (.tmp 71) (.tmp 73) 24 rfl 50 (.agg #[.int .u8 0, .bool false, .int .i64 0, .string ByteArray.empty, .bool false]) 5 40 Tryz.underlying24 infoVal rfl (by decide) (by decide) sa k sy (vCells r) (by exact ho5) rfl _ 1 1 [.int .u8 (vt : Int), .bool vn, .int .i64 vi, .string vx, .bool vb] rfl rfl (by exact news_at hN5) (by simp [Value.oneCell']) (by exact hby) ?_)
                  intro sa' sc' w6 own6 only6 fresh6
                  have hR6 := hR5.out.app (m := k + 1) (ys := [.int .u8 (vt : Int), .bool vn, .int .i64 vi, .string vx, .bool vb]) own6 only6 (by simpa using fresh6)
                  have hS6 := hfin5.out sa' sc' w6 hR6
                  replace hS6 := Lib.hid hS6
                  clear hR6 own6 only6 fresh6 hN5 ho5 hR5 hfin5 z0 z1 z2 z3 z4
                  go_wp2_with fail
                  go_roundw
                  case rel => exact ⟨k + 1, sa', sc', _, _, _, _, _, by omega, by go_num, rfl, rfl, hS6.out⟩
                  case measure => simp [RowKit.intOf]; omega
                · have dF : ((F : Int) != 0) = true := by simp [hF0]
                  have hnone := hbadv.out hvs.out hF0
                  have hf := hbad.out 11 w5 (by
                    rw [hdec2.out]
                    have e : progOk (V : Int) cs nb (p.drop 3) = none := by unfold progOk; rw [hnone]
                    rw [e]) (hBW.out.trans ((hbc.out.trans (hb5.mono hbc.out.size)).mono hBW.out.size))
                  replace hf := Lib.hid hf
                  replace hF0 := Lib.hid hF0
                  replace hnone := Lib.hid hnone
                  clear hb5 kV hRd5
                  go_wp2_with fail
                  first | exact hf.out | (go_ret; exact hf.out) | (go_ret2; exact hf.out)
          · have hkI : ¬ (k : Int) < m := by omega
            have hke : r.length = cs.length := by have := hS.len; have := hm.out; omega
            have hd := hS.at'.done hke
            have h1 := hS.len
            have h2 := hS.row
            have h3 := hS.ok
            replace hd := Lib.hid hd
            replace h1 := Lib.hid h1
            replace h2 := Lib.hid h2
            replace h3 := Lib.hid h3
            clear hS hke
            go_wp2_with fail
            go_meet
            exact ⟨k, sa, sy, r, by omega, rfl, h1.out, hd.out, h2.out, h3.out⟩
      case rest =>
        rename World => W3
        obtain ⟨k, sa, sy, r, hkm, rfl, hrk, hdg, hR3, hok3⟩ := hcut
        have hb3 := hR3.b
        have hrow := hR3.rd
        have hVlt : V < 65536 := by have := hV0.out; omega
        have hr8 : r.length ≤ 8 := by omega
        have henc := encode_any V hVlt r hok3 hr8 sa sy W3 (by rw [hrk]; exact hrow)
        rw [hrk] at henc
        have h256 := encP_256 V r hr8
        obtain ⟨L, hL⟩ : ∃ L, L = (encP V r).length := ⟨_, rfl⟩
        rw [← hL] at henc
        have hrp3 : ∀ w', Below W3.heap.size W3 w' → Rd w' (.slice (some ⟨bp, op, none⟩) n pc) n (bcells p) := fun w' hb => hrp.kept (hBW.out.trans ((hb3.trans (hb.mono hb3.size)).mono hBW.out.size))
        have hbq : ∀ (a1 : Option Addr) (c1 : Nat) (w' : World), Rd w' (.slice a1 L c1) L (bcells (encP V r)) → Below W3.heap.size W3 w' → Calls Tryz.prog 57 #[.slice a1 L c1, .slice (some ⟨bp, op, none⟩) n pc] w' (fun e w'' => e = .returned (.bool (decide (encP V r = p))) ∧ w'' = w') := fun a1 c1 w' h1 h2 => byteseq_any a1 (some ⟨bp, op, none⟩) L c1 n pc (encP V r) p w' hL.symm hnn.out.symm h1 (hrp3 w' h2) h256 hp
        have kR := fun w' (hb : Below W3.heap.size W3 w') => hR3.below hb
        have hprog : progOk (V : Int) cs nb (p.drop 3) = if p.drop 3 = encR r ∧ nb = nulls r then some (r ++ (cs.drop r.length).map CV.df) else none := by
          unfold progOk
          rw [hdg]
        obtain ⟨eq, heq⟩ : ∃ b, b = decide (encP V r = p) := ⟨_, rfl⟩
        rw [← heq] at hbq
        replace henc := Lib.hid henc
        replace hbq := Lib.hid hbq
        replace kR := Lib.hid kR
        replace hrp3 := Lib.hid hrp3
        replace hL := Lib.hid hL
        replace hrk := Lib.hid hrk
        replace hdg := Lib.hid hdg
        replace hok3 := Lib.hid hok3
        replace hb3 := Lib.hid hb3
        replace hprog := Lib.hid hprog
        replace heq := Lib.hid heq
        clear hR3 hrow h256 hr8 t2
        go_wp2_with fail
        refine henc.out.mono ?_
        rintro e w4 ⟨a1, c1, rfl, hE4⟩
        have hq := hbq.out a1 c1 w4 (Rd.of_own hE4.o) hE4.b
        have hb4 := hE4.b
        replace hq := Lib.hid hq
        replace hb4 := Lib.hid hb4
        clear hE4
        go_wp2_with fail
        refine hq.out.mono ?_
        rintro e w5 ⟨rfl, rfl⟩
        clear hq
        cases eq with
        | false =>
          have hne := of_decide_eq_false heq.out.symm
          have hf := hbad.out 11 w5 (by
            rw [hdec2.out, hprog.out, if_neg (fun h => hne ((hence.out r).2 h))]) (hBW.out.trans ((hb3.out.trans (hb4.out.mono hb3.out.size)).mono hBW.out.size))
          replace hf := Lib.hid hf
          replace hne := Lib.hid hne
          go_wp2_with fail
          first | exact hf.out | (go_ret; exact hf.out) | (go_ret2; exact hf.out)
        | true =>
          have hyes := (hence.out r).1 (of_decide_eq_true heq.out.symm)
          have hbW5 := hb3.out.trans (hb4.out.mono hb3.out.size)
          have hfin : ∀ sa' sc' w', RowB W 50 5 m (vCells (r ++ (cs.drop k).map CV.df)) sa' sc' w' → post (.returned (.tuple #[.slice sa' m sc', .int .i64 0])) w' := by
            intro sa' sc' w' h
            rw [← hpost.out]
            have e : decP ver cs p = (r ++ (cs.drop k).map CV.df, 0) := by
              rw [hdec2.out, hprog.out, if_pos hyes, hrk.out]
            rw [e]
            have hl : (r ++ (cs.drop k).map CV.df).length = m := by
              rw [List.length_append, List.length_map, List.length_drop, hrk.out, ← hm.out]; omega
            unfold DecPost
            simp only [hl]
            exact ⟨sa', sc', rfl, RowB.rebase h hBW.out⟩
          have t2 := (kT.out w5 hbW5).cell (o := 2) rfl
          have hR5 := kR.out w5 hb4.out
          have hrc5 := hrW0.kept hbW5
          obtain ⟨bl, ol, cl, ea, _⟩ := hrc5.cells hg.pos
          simp only [Value.slice.injEq, true_and] at ea
          obtain ⟨rfl, hcap⟩ := ea
          obtain ⟨ac, hsl2, hrc2⟩ := cut_cols bl ol m cc k cs hm.out hkm hcc
          rw [← hm.out] at hrc5
          obtain ⟨d, hd⟩ : ∃ d, d = m - k := ⟨_, rfl⟩
          obtain ⟨ce, hce⟩ : ∃ d, d = cc - k := ⟨_, rfl⟩
          rw [← hd, ← hce] at hsl2 hrc2
          have hrD : ∀ w', Below W.heap.size W w' → Rd w' (.slice ac d ce) d (cCells (cs.drop k)) := fun w' hb => hrc2 w' (by have := hrW0.kept hb; rw [← hm.out] at this; exact this)
          have hdl : (cs.drop k).length = d := by rw [List.length_drop, ← hm.out, hd]
          have h0 : RowB W 50 5 (k + 0) (vCells (r ++ ((cs.drop k).take 0).map CV.df)) sa sy w5 := by simpa using hR5
          replace hcap := Lib.hid hcap
          replace hyes := Lib.hid hyes
          replace hfin := Lib.hid hfin
          replace hd := Lib.hid hd
          replace hce := Lib.hid hce
          replace hrD := Lib.hid hrD
          replace hdl := Lib.hid hdl
          replace h0 := Lib.hid h0
          replace hbW5 := Lib.hid hbW5
          clear hrc2 hrc5 hR5 kR
          go_wp2_with fail
          go_loopw [7, 88] (fun x i wr => ∃ (j : Nat) (sa' : Option Addr) (sc' : Nat), j ≤ d ∧ i = .int .i64 j ∧ x = .slice sa' (k + j) sc' ∧ RowB W 50 5 (k + j) (vCells (r ++ ((cs.drop k).take j).map CV.df)) sa' sc' wr) (fun _ i _ => d - (RowKit.intOf i).toNat)
          case atStart => exact ⟨0, sa, sy, by omega, rfl, rfl, h0.out⟩
          case round =>
            clear h0 t2
            obtain ⟨j, sa', sc', hj, rfl, rfl, hR⟩ := hrel
            by_cases hjd : j < d
            · have hlI : (j : Int) < d := by omega
              have hjc : j < (cs.drop k).length := by have := hdl.out; omega
              obtain ⟨b2, o2, c2, eb, fb⟩ := (show Rd wr (.slice ac (cs.drop k).length ce) (cs.drop k).length (cCells (cs.drop k)) by rw [hdl.out]; exact hrD.out wr hR.b).col hjc
              simp only [Value.slice.injEq, true_and] at eb
              obtain ⟨rfl, hcap2⟩ := eb
              replace hcap2 := Lib.hid hcap2
              have htk := take_getD (cs.drop k) j CV0 hjc
              have hc := fun i v hi => fb i v hi
              generalize (cs.drop k).getD j CV0 = c at *
              obtain ⟨nm, ty, nl, sc, ⟨dty, dnl, dn, dtx, db⟩⟩ := c
              have c0 : wr.cell? ⟨b2, o2 + j * 9, none⟩ = _ := hc 0 _ rfl
              have c1 := hc 1 _ rfl
              have c2' := hc 2 _ rfl
              have c3' := hc 3 _ rfl
              have c4 := hc 4 _ rfl
              have c5 := hc 5 _ rfl
              have c6 := hc 6 _ rfl
              have c7 := hc 7 _ rfl
              have c8 := hc 8 _ rfl
              obtain ⟨A, hA⟩ : ∃ A, A = wr.alloc (.cells #[.string nm, .int .u8 (ty : Int), .bool nl, .int .i64 sc, .int .u8 (dty : Int), .bool dnl, .int .i64 dn, .string dtx, .bool db] 78) := ⟨_, rfl⟩
              have hN : Has A wr.heap.size [.string nm, .int .u8 (ty : Int), .bool nl, .int .i64 sc, .int .u8 (dty : Int), .bool dnl, .int .i64 dn, .string dtx, .bool db] 78 := by rw [hA]; exact Has.new wr _ _
              have hRA : RowB W 50 5 (k + j) (vCells (r ++ ((cs.drop k).take j).map CV.df)) sa' sc' A := by rw [hA]; exact hR.alloc _
              obtain ⟨xs, hxs⟩ : ∃ xs, xs = vCells (r ++ ((cs.drop k).take j).map CV.df) := ⟨_, rfl⟩
              rw [← hxs] at hRA
              have n4 := hN.cell (o := 4) rfl
              have n5 := hN.cell (o := 5) rfl
              have n6 := hN.cell (o := 6) rfl
              have n7 := hN.cell (o := 7) rfl
              have n8 := hN.cell (o := 8) rfl
              have hR5 := hRA.alloc (.cells #[.int .u8 (dty : Int), .bool dnl, .int .i64 dn, .string dtx, .bool db] 50)
              have hN5 := Has.new A [.int .u8 (dty : Int), .bool dnl, .int .i64 dn, .string dtx, .bool db] 50
              have ho5 := hR5.o
              have hby : (k + j + 1) * 40 ≤ 140737488355328 := by have := hm8; have := hd.out; omega
              have hfin5 : ∀ s2 c2 w6, RowB W 50 5 (k + j + 1) (xs ++ [.int .u8 (dty : Int), .bool dnl, .int .i64 dn, .string dtx, .bool db]) s2 c2 w6 → RowB W 50 5 (k + (j + 1)) (vCells (r ++ ((cs.drop k).take (j + 1)).map CV.df)) s2 c2 w6 := by
                intro s2 c2 w6 h6
                rw [hxs] at h6
                rw [htk, List.map_append, ← List.append_assoc, List.map_singleton, vc_snoc]
                exact h6
              have hsz : k + j + 1 = k + (j + 1) := by omega
              replace hA := Lib.hid hA
              replace hR5 := Lib.hid hR5
              replace hfin5 := Lib.hid hfin5
              replace htk := Lib.hid htk
              replace hxs := Lib.hid hxs
              replace hsz := Lib.hid hsz
              clear hc fb hR hRA hN
              go_upto_region 26 with fail
              rw [← hA.out]
              clear c0 c1 c2' c3' c4 c5 c6 c7 c8
              go_wp2_with (at_builtin; refine wpList_app rfl (.tmp 92) (.tmp 95) 24 rfl 50 (.agg #[.int .u8 0, .bool false, .int .i64 0, .string ByteArray.empty, .bool false]) 5 40 Tryz.underlying24 infoVal rfl (by decide) (by decide) sa' (k + j) sc' xs (by exact ho5) rfl _ 1 1 [.int .u8 (dty : Int), .bool dnl, .int .i64 dn, .string dtx, .bool db] rfl rfl (by exact news_at hN5) (by simp [Value.oneCell']) (by exact hby) ?_)
              intro s2 c2 w6 own6 only6 fresh6
              have hR6 := hR5.out.app (m := k + j + 1) (ys := [.int .u8 (dty : Int), .bool dnl, .int .i64 dn, .string dtx, .bool db]) own6 only6 (by simpa using fresh6)
              have hS6 := hfin5.out s2 c2 w6 hR6
              replace hS6 := Lib.hid hS6
              clear hR6 own6 only6 fresh6 hN5 ho5 hR5 hfin5 n4 n5 n6 n7 n8
              go_wp2_with fail
              go_roundw
              case rel => exact ⟨j + 1, s2, c2, by omega, by go_num, by rw [← hsz.out], hS6.out⟩
              case measure => simp [RowKit.intOf]; omega
            · have hkI : ¬ (j : Int) < d := by omega
              have hje : k + j = m := by have := hd.out; omega
              have hf : post (.returned (.tuple #[.slice sa' (k + j) sc', .int .i64 0])) wr := by
                rw [List.take_of_length_le (by have := hdl.out; omega)] at hR
                rw [hje] at hR ⊢
                exact hfin.out sa' sc' wr hR
              replace hf := Lib.hid hf
              replace hje := Lib.hid hje
              clear hR
              go_wp2_with fail
              first | exact hf.out | (go_ret; exact hf.out) | (go_ret2; exact hf.out)
end Go.Proofs.YtpjbcadelmjmfaaGreatDoor
