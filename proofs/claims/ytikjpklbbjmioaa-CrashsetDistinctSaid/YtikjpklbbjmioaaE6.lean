/- The reference's device: WriteBack, Fence. -/
import Derived.Test.YtikjpklbbjmioaaE5
import Derived.Test.YtikjpklbbjmioaaD10
import Derived.IntWalk
namespace Go.Proofs.Ytikjpklbbjmioaa
open Go.RowKit Go.Maps
variable {w : World} {F : Own} {o h T : Nat} {R : Dv}

set_option maxHeartbeats 4000000 in
theorem rback_any (hr : RefSt w F o h T R) (l k : Int) :
    Calls Try.prog 94 #[.pointer (some ⟨h, 0, none⟩), .int .i64 l, .int .i64 k] w (RPost w F o h T (backP R l k) (.bool (backB R l k))) := by
  generalize hpost : RPost w F o h T (backP R l k) (.bool (backB R l k)) = post
  obtain ⟨lb, lc, ns, h1, h2, h3, h4⟩ := hr.ex
  have d4 := h1.cell (refCells_off lb lc ns R)
  have d2 := h1.cell (refCells_lines lb lc ns R)
  have hno : backB R l k = false → post (.returned (.bool false)) w := by
    intro hb
    rw [← hpost]
    refine ⟨F, by rw [hb], ?_, Dstep.refl _ _ _⟩
    unfold backP; rw [hb]; exact hr
  cases hoff : R.off with
  | true =>
    rw [hoff] at d4
    have hfin := Lib.hid (hno (by simp [backB, hoff]))
    clear hpost hno hoff hr h1 h2 h4
    go_enter Try.func94, Try.ntmps94
    go_wp2_with fail
    exact hfin.out
  | false =>
    rw [hoff] at d4
    by_cases hl0 : l < 0
    · have hfin := Lib.hid (hno (by unfold backB; rw [decide_eq_false (by omega), Bool.and_false]))
      have e1 : decide (l < 0) = true := decide_eq_true hl0
      clear hpost hno hoff hr h1 h2 h4
      go_enter Try.func94, Try.ntmps94
      go_wp2_with fail
      exact hfin.out
    · have e1 : decide (l < 0) = false := decide_eq_false hl0
      by_cases hln : (R.lines.length : Int) ≤ l
      · have hfin := Lib.hid (hno (by unfold backB; rw [decide_eq_false (by omega), Bool.and_false]))
        have e3 : decide ((R.lines.length : Int) ≤ l) = true := decide_eq_true hln
        clear hpost hno hoff hr h1 h2 h4
        go_enter Try.func94, Try.ntmps94
        go_wp2_with fail
        exact hfin.out
      · have e3 : decide ((R.lines.length : Int) ≤ l) = false := decide_eq_false hln
        obtain ⟨i, rfl⟩ := Int.eq_ofNat_of_zero_le (show 0 ≤ l by omega)
        have hi : i < R.lines.length := by omega
        have hiI : (i : Int) < (R.lines.length : Int) := by omega
        have hi0 : (0 : Int) ≤ (i : Int) := by omega
        by_cases hk0 : k < 0
        · have hfin := Lib.hid (hno (by unfold backB; rw [decide_eq_false (by omega), Bool.and_false]))
          have e2 : decide (k < 0) = true := decide_eq_true hk0
          clear hpost hno hoff hr h1 h2 h4
          go_enter Try.func94, Try.ntmps94
          go_wp2_with fail
          exact hfin.out
        · obtain ⟨q, rfl⟩ := Int.eq_ofNat_of_zero_le (show 0 ≤ k by omega)
          have e2 : decide ((q : Int) < 0) = false := decide_eq_false hk0
          obtain ⟨va, vc, hlc, hrd⟩ := h2.cells hi
          have l1 := hlc.c8
          by_cases hq : (R.line i).hist.length < q
          · have hfin := Lib.hid (hno (by unfold backB; rw [decide_eq_false (by simp only [Int.toNat_natCast]; omega), Bool.and_false]))
            have hqI : ((R.line i).hist.length : Int) < (q : Int) := by omega
            clear hpost hno hoff hr h1 h2 h4 hlc hrd
            go_enter Try.func94, Try.ntmps94
            go_wp2_with fail
            exact hfin.out
          · have hb : backB R i q = true := by
              unfold backB; rw [decide_eq_true (by simp only [Int.toNat_natCast]; omega), hoff]; rfl
            have hbp : backP R i q = R.setLine i (persistL (R.line i) q) := by unfold backP; rw [if_pos hb]; simp only [Int.toNat_natCast]
            have hp := Lib.hid (rpersist_any hr hi (k := q) (by omega))
            have hfin : ∀ w1, RPPost w F o h T (R.setLine i (persistL (R.line i) q)) (.returned (.tuple #[])) w1 → post (.returned (.bool true)) w1 := by
              intro w1 hq
              rw [← hpost, hb, hbp]
              obtain ⟨F1, _, h3, h4⟩ := hq.step
              exact ⟨F1, rfl, h3, h4⟩
            have hqI : ¬ ((R.line i).hist.length : Int) < (q : Int) := by omega
            replace hfin := Lib.hid hfin
            clear hpost hno hoff hr h1 h2 h4 hlc hrd hb hbp
            go_enter Try.func94, Try.ntmps94
            go_wp2_with fail
            refine hp.out.mono ?_
            rintro e w1 ⟨F1, rfl, q1, q2, q3⟩
            have hx := Lib.hid (hfin.out w1 ⟨F1, rfl, q1, q2, q3⟩)
            clear q1 q2 q3
            go_wp2_with fail
            exact hx.out

/-! ### the fence -/
def fenM (Q : Dv) (ns : List (Nat × Nat)) (i : Nat) : Dv := { Q with lines := (ns.take i).foldl fenceS Q.lines }
theorem fenM_len (hQ : R.Ok T) {t : Nat} (ht : t < 8) (i : Nat) : (fenM R (R.notes.getD t []) i).lines.length = R.lines.length :=
  (fold_fence ((R.notes.getD t []).take i) R.lines (((hQ.nd t ht)).sublist (List.Sublist.map _ (List.take_sublist _ _))) (fun x hx => (hQ.no t ht x (List.mem_of_mem_take hx)).1)).1
theorem fenM_line (hQ : R.Ok T) {t : Nat} (ht : t < 8) {i : Nat} {x : Nat × Nat} (hx : (R.notes.getD t [])[i]? = some x) : (fenM R (R.notes.getD t []) i).line x.1 = R.line x.1 := by
  have h1 := (fold_fence ((R.notes.getD t []).take i) R.lines (((hQ.nd t ht)).sublist (List.Sublist.map _ (List.take_sublist _ _))) (fun x hx => (hQ.no t ht x (List.mem_of_mem_take hx)).1)).2 x.1 (hQ.no t ht x (List.mem_of_getElem? hx)).1
  have hnone : noteF ((R.notes.getD t []).take i) x.1 = none := by
    unfold noteF
    rw [List.find?_eq_none.2]; rfl
    intro y hy hd
    simp only [decide_eq_true_eq] at hd
    obtain ⟨j, hj, rfl⟩ := List.getElem_of_mem hy
    have hji : j < i := by rw [List.length_take] at hj; omega
    have hjn : j < (R.notes.getD t []).length := by rw [List.length_take] at hj; omega
    have h2 : ((R.notes.getD t []).map Prod.fst)[j]? = ((R.notes.getD t []).map Prod.fst)[i]? := by
      rw [List.getElem?_map, List.getElem?_map, hx, List.getElem?_eq_getElem hjn]
      rw [List.getElem_take] at hd
      exact congrArg some hd
    have h3 := (List.getElem?_inj (by simpa using hjn) (hQ.nd t ht)).1 h2
    omega
  rw [hnone] at h1
  exact h1
theorem fenM_succ (hQ : R.Ok T) {t : Nat} (ht : t < 8) {i : Nat} {x : Nat × Nat} (hx : (R.notes.getD t [])[i]? = some x) :
    fenM R (R.notes.getD t []) (i + 1) = (fenM R (R.notes.getD t []) i).setLine x.1 (fenL (R.line x.1) x.2) := by
  have hl := fenM_line hQ ht hx
  have e : (R.notes.getD t []).take (i + 1) = (R.notes.getD t []).take i ++ [x] := by rw [List.take_add_one, hx]; rfl
  unfold Dv.line at hl
  unfold fenM Dv.setLine at *
  rw [e, List.foldl_append]
  simp only [List.foldl_cons, List.foldl_nil]
  rw [fenceS_eq, hl]; rfl
theorem fenM_end (R : Dv) (t : Nat) : ({ fenM R (R.notes.getD t []) (R.notes.getD t []).length with notes := R.notes.set t [] } : Dv) = fencedP R t := by
  unfold fenM fencedP; rw [List.take_length]
theorem noteCells_get : ∀ (ns : List (Nat × Nat)) (i : Nat) (p : Nat × Nat), ns[i]? = some p → (noteCells ns)[i * 2]? = some (.int .i64 p.1) ∧ (noteCells ns)[i * 2 + 1]? = some (.int .i64 p.2)
  | q :: ns, 0, p, h => by simp at h; subst h; exact ⟨rfl, rfl⟩
  | q :: ns, i + 1, p, h => by
    have := noteCells_get ns i p (by simpa using h)
    have e1 : (i + 1) * 2 = i * 2 + 2 := by omega
    rw [e1]
    exact this
  | [], _, _, h => by simp at h
theorem noteCells_len (ws : List (Nat × Nat)) : (noteCells ws).length = ws.length * 2 := by
  induction ws with
  | nil => rfl
  | cons s l ih => simp only [noteCells, List.flatMap_cons, List.length_append, List.length_cons] at *; rw [ih]; show 2 + _ = _; omega
theorem noteCells_snoc (ws : List (Nat × Nat)) (p : Nat × Nat) : noteCells (ws ++ [p]) = noteCells ws ++ [.int .i64 p.1, .int .i64 p.2] := by simp [noteCells]
theorem refCells_setNote (lb lc : Nat) (ns : Nat → Value) (R : Dv) (t : Nat) (l : List (List (Nat × Nat))) (v : Value) (ht : t < 8) : refCells lb lc (fun j => if j = t then v else ns j) { R with notes := l } = (refCells lb lc ns R).set (1 + t) v := by
  unfold refCells
  match t, ht with
  | 0, _ | 1, _ | 2, _ | 3, _ | 4, _ | 5, _ | 6, _ | 7, _ => rfl
/-- A thread's notes have been replaced. -/
theorem RefSt.notes {w w' : World} {F F' : Own} {t T' : Nat} {nl : List (Nat × Nat)} {v : Value} {S : Nat → Prop} (hr : RefSt w F o h T R) (ht : t < 8) (hk : ({ R with notes := R.notes.set t nl } : Dv).Ok T')
    {lb lc : Nat} {ns : Nat → Value} (h2 : RLinSt w F o lb lc R) (h3 : F lb = some (o, 1, 0)) (h4 : ∀ t, t < 8 → RdO w F (o, 3, t) (ns t) (R.notes.getD t []).length (noteCells (R.notes.getD t [])))
    (hd : Has w' h ((refCells lb lc ns R).set (1 + t) v) 110) (ho : Only S w w') (hx : Ext w F F') (hs : ∀ k, S k → k = h) (hh : h < w.heap.size) (hn : RdO w' F' (o, 3, t) v nl.length (noteCells nl)) :
    RefSt w' F' o h T' { R with notes := R.notes.set t nl } := by
  have ne : ∀ {k : Nat} {r : Nat × Nat}, F k = some (o, r) → r ≠ (0, 0) → ¬ S k := fun hb hr' s => by
    have := hs _ s; subst this; rw [hr.fh] at hb; cases hb; exact hr' rfl
  have hlbl : lb < w.heap.size := by obtain ⟨cs, hv, h5, _⟩ := h2; exact ownsRow_lt h5 rfl
  refine ⟨hk, ⟨lb, lc, fun j => if j = t then v else ns j, by rw [refCells_setNote lb lc ns R t _ v ht]; exact hd, ?_, (hx _ hlbl).trans h3, fun t' ht' => ?_⟩, (hx _ hh).trans hr.fh⟩
  · exact h2.kept h3 ho hx (fun k s => ⟨fun e => ne e (by simp) s, fun i e => ne e (by simp) s⟩)
  · by_cases e : t' = t
    · subst e
      rw [show (({ R with notes := R.notes.set t' nl } : Dv).notes).getD t' [] = nl from by show (R.notes.set t' nl).getD t' [] = _; rw [List.getD, List.getElem?_set_self (by rw [hr.ok.nl]; exact ht')]; rfl]
      simp only [if_true]; exact hn
    · rw [show (({ R with notes := R.notes.set t nl } : Dv).notes).getD t' [] = R.notes.getD t' [] from by show (R.notes.set t nl).getD t' [] = _; rw [List.getD, List.getElem?_set_ne (Ne.symm e)]; rfl]
      simp only [if_neg e]; exact (h4 t' ht').kept ho hx (fun k s e => ne e (by simp) s)

def RFRel (w : World) (F : Own) (o h T : Nat) (R : Dv) (_i : Nat) (wr : World) : Prop :=
  ∃ Fr, RefSt wr Fr o h T R ∧ Ext w F Fr ∧ Only (fun k => F k = some (o, 1, 0)) w wr
set_option maxHeartbeats 8000000 in
set_option maxRecDepth 100000 in
theorem rfence_any (hr : RefSt w F o h T R) (hT : T + 1 ≤ 100000) {t : Nat} (ht : t < 8) :
    Calls Try.prog 92 #[.pointer (some ⟨h, 0, none⟩), .int .i64 (t : Int)] w (RPost w F o h (T + 1) (fenceP R t) (.tuple #[])) := by
  generalize hpost : RPost w F o h (T + 1) (fenceP R t) (.tuple #[]) = post
  have hco := rcounted_any hr (by omega) true ht
  have htI : (t : Int) < 8 := by omega
  have ht0 : (0 : Int) ≤ (t : Int) := by omega
  by_cases hm : countB R true = true
  · have e3 : fenceP R t = fencedP (countP R t true) t := by unfold fenceP; rw [if_pos hm]
    rw [e3] at hpost
    rw [hm] at hco
    generalize countP R t true = Q at *
    replace hco := Lib.hid hco
    clear hr hm e3
    go_enter Try.func92, Try.ntmps92
    go_wp2_with fail
    refine hco.out.mono ?_
    rintro e wq ⟨F1, rfl, h1, s1⟩
    obtain ⟨lb, lc, ns, q1, q2, q3, q4⟩ := h1.ex
    have cn := q1.cell (refCells_note lb lc ns Q t ht)
    have hnt := q4 t ht
    obtain ⟨na, nc, hna, hnrd⟩ := hnt.1
    rw [hna] at cn
    have hok := h1.ok
    have ht100 := hok.t
    have hn2 := hok.n2
    have hnl : (Q.notes.getD t []).length ≤ 4096 := by
      have h5 := hok.nd t ht
      have h6 : ∀ x ∈ (Q.notes.getD t []).map Prod.fst, x ∈ List.range 4096 := by
        intro x hx
        obtain ⟨y, hy, rfl⟩ := List.mem_map.1 hx
        have := (hok.no t ht y hy).1
        simp; omega
      have := List.Nodup.length_le_of_subset h5 h6
      simpa using this
    have hrel0 : RFRel wq F1 o h (T + 1) (fenM Q (Q.notes.getD t []) 0) 0 wq := ⟨F1, by
      have : fenM Q (Q.notes.getD t []) 0 = Q := rfl
      rw [this]; exact h1, Ext.refl _ _, Only.refl _ _⟩
    have hne : noteCells (Q.notes.getD t []) ≠ [] → ∀ k, (Value.slice na (Q.notes.getD t []).length nc).ownBlock = some k → F1 k ≠ some (o, 1, 0) := by
      intro hc k hk e
      rw [hnt.2.1 hc k (by rw [hna]; exact hk)] at e; cases e
    have hrd0 : Rd wq (.slice na (Q.notes.getD t []).length nc) (Q.notes.getD t []).length (noteCells (Q.notes.getD t [])) := by have := hnt.1; rw [hna] at this; exact this
    replace hna := Lib.hid hna
    replace hpost := Lib.hid hpost
    clear hnt hnrd q4
    replace h1 := Lib.hid h1
    go_wp2_with fail
    go_loopw [18] (fun i wr => ∃ n : Nat, n ≤ (Q.notes.getD t []).length ∧ i = .int .i64 n ∧ RFRel wq F1 o h (T + 1) (fenM Q (Q.notes.getD t []) n) n wr) (fun i _ => (Q.notes.getD t []).length - (intOf i).toNat)
    case atStart => exact ⟨0, Nat.zero_le _, rfl, hrel0⟩
    case round =>
      clear hrel0
      obtain ⟨n, hn, rfl, Fr, hR, hX, hO⟩ := hrel
      obtain ⟨lb2, lc2, ns2, r1, r2, r3, r4⟩ := hR.ex
      by_cases hlt : n < (Q.notes.getD t []).length
      · have hnI : (n : Int) < ((Q.notes.getD t []).length : Int) := by omega
        have hat := get_of_lt (0, 0) hlt
        have hx1 := hok.no t ht _ (List.mem_of_getElem? hat)
        have hline := fenM_line hok ht hat
        have hsucc := fenM_succ hok ht hat
        have hlen := fenM_len hok ht n
        generalize (Q.notes.getD t []).getD n (0, 0) = x at *
        obtain ⟨l, cc⟩ := x
        simp only at hx1 hline hsucc
        have hrd := hrd0.only hO (fun k hk => hne (by
          intro e; have := congrArg List.length e; rw [noteCells_len] at this; simp only [List.length_nil] at this; omega) k hk)
        obtain ⟨bl, ol, cl, ea, fa⟩ := hrd.cells (by omega)
        simp only [Value.slice.injEq, true_and] at ea
        obtain ⟨rfl, hcap⟩ := ea
        replace hcap := Lib.hid hcap
        have k0 : wr.cell? ⟨bl, ol + n * 2, none⟩ = _ := fa _ _ (noteCells_get _ n _ hat).1
        have k1 : wr.cell? ⟨bl, ol + n * 2 + 1, none⟩ = _ := fa _ _ (noteCells_get _ n _ hat).2
        simp only at k0 k1
        have hH := Has.new wr [.int .i64 (l : Int), .int .i64 (cc : Int)] 175
        have e0 := hH.cell (o := 0) rfl
        have e1 := hH.cell (o := 1) rfl
        have cl0 := r1.cell (refCells_lines lb2 lc2 ns2 _)
        rw [hlen] at cl0
        obtain ⟨va, vc, hlc, _⟩ := r2.cells (show l < (fenM Q (Q.notes.getD t []) n).lines.length by rw [hlen]; exact hx1.1)
        have l9 := hlc.c9
        rw [hline] at l9
        have hAl := (Only.refl (fun _ => False) wr).alloc (.cells #[.int .i64 (l : Int), .int .i64 (cc : Int)] 175)
        have cl0a := hAl.cell cl0 (fun s => s)
        have l9a := hAl.cell l9 (fun s => s)
        have hlI : (l : Int) < (Q.lines.length : Int) := by omega
        have hl0 : (0 : Int) ≤ (l : Int) := by omega
        have hkl := (hok.ln l hx1.1).hl
        have hccI : (cc : Int) ≤ 100000 := by omega
        have hdnI : ((Q.line l).done : Int) ≤ 100000 := by omega
        have hwrp : IntKind.i64.wrap ((cc : Int) - ((Q.line l).done : Int)) = (cc : Int) - ((Q.line l).done : Int) := IntWalk.i64_in _ (by omega)
        have hpe : ∀ w', Below wr.heap.size wr w' → (Q.line l).done < cc → Calls Try.prog 108 #[.pointer (some ⟨h, 0, none⟩), .int .i64 (l : Int), .int .i64 ((cc : Int) - ((Q.line l).done : Int))] w' (RPPost w' Fr o h (T + 1) (fenM Q (Q.notes.getD t []) (n + 1))) := by
          intro w' hB hlt2
          have := rpersist_any (hR.below hB) (i := l) (k := cc - (Q.line l).done) (by rw [hlen]; exact hx1.1) (by rw [hline]; omega)
          rw [hline] at this
          rw [hsucc]
          unfold fenL
          rw [if_pos hlt2]
          rw [show ((cc : Int) - ((Q.line l).done : Int)) = ((cc - (Q.line l).done : Nat) : Int) from by omega]
          exact this
        have hno : ¬ (Q.line l).done < cc → fenM Q (Q.notes.getD t []) (n + 1) = fenM Q (Q.notes.getD t []) n := by
          intro hlt2
          rw [hsucc]; unfold fenL; rw [if_neg hlt2, ← hline]; unfold Dv.setLine Dv.line; rw [set_getD_self]
        have hFr : ∀ k, Fr k = some (o, 1, 0) → k < wq.heap.size → F1 k = some (o, 1, 0) := fun k hk hks => by rw [← hX k hks]; exact hk
        clear hsucc fa r1 r2 r3 r4 hlc hrd hH
        generalize hdd : (Q.line l).done = dn at *
        replace hdd := Lib.hid hdd
        replace hat := Lib.hid hat
        replace hlen := Lib.hid hlen
        replace hline := Lib.hid hline
        replace hpe := Lib.hid hpe
        replace hno := Lib.hid hno
        replace hR := Lib.hid hR
        by_cases hlt2 : dn < cc
        · have hltI : (0 : Int) < (cc : Int) - (dn : Int) := by omega
          go_wp2_with fail
          go_quiet (fail)
          clear hwrp
          go_wp2_with fail
          refine (hpe.out _ (by first | exact ((Below.refl _ _).alloc (Nat.le_refl _) _) | exact below_drewN ((Below.refl _ _).alloc (Nat.le_refl _) _) _) hlt2).mono ?_
          rintro e w2 ⟨F2, rfl, p1, p2, p3⟩
          have hnext : RFRel wq F1 o h (T + 1) (fenM Q (Q.notes.getD t []) (n + 1)) (n + 1) w2 := by
            have hO2 : Only (fun k => Fr k = some (o, 1, 0)) wr w2 := (((Only.refl (fun k => Fr k = some (o, 1, 0)) wr).alloc _).drewN nq).trans p3
            exact ⟨F2, p1, hX.trans p2 (by simp; have := hO.size; omega), hO.trans' hO2 (fun k hk e => hFr k e hk)⟩
          replace hnext := Lib.hid hnext
          clear p1 p2 p3
          go_wp2_with fail
          go_roundw
          case rel => exact ⟨n + 1, by omega, by go_num, hnext.out⟩
          case measure => simp [intOf]; omega
        · have hltI : ¬ (0 : Int) < (cc : Int) - (dn : Int) := by omega
          go_wp2_with fail
          go_quiet (fail)
          clear hwrp
          have hnext : RFRel wq F1 o h (T + 1) (fenM Q (Q.notes.getD t []) (n + 1)) (n + 1) ((wr.alloc (.cells #[.int .i64 (l : Int), .int .i64 (cc : Int)] 175)).drewN nq) := by
            rw [hno.out hlt2]
            exact ⟨Fr, (hR.out.alloc _).drewN nq, hX, (hO.alloc _).drewN nq⟩
          replace hnext := Lib.hid hnext
          go_wp2_with fail
          go_roundw
          case rel => exact ⟨n + 1, by omega, by go_num, hnext.out⟩
          case measure => simp [intOf]; omega
      · obtain rfl : n = (Q.notes.getD t []).length := by omega
        have hht := r1.cell (refCells_note lb2 lc2 ns2 _ t ht)
        have hhf := r1.free (1 + t)
        have hlt1 := r1.lt
        have hend : post (.returned (.tuple #[])) (wr.setCell ⟨h, 1 + t, none⟩ (.slice none 0 0)) := by
          rw [← hpost.out, ← fenM_end Q t]
          have hc := cleared_ok hR.ok t
          have hS := Only.setAt wr h (1 + t) (.slice none 0 0)
          have := hR.notes (nl := []) (v := .slice none 0 0) (S := fun k => k = h) ht hc r2 r3 r4 (r1.set (1 + t) _) hS (Ext.refl _ _) (fun k e => e) hlt1 ⟨Rd.nil _, fun e => absurd rfl e, own_cap (World.ownsRow_nil wr 0 0 1)⟩
          refine ⟨Fr, rfl, this, s1.trans ⟨hX, (hO.mono (fun k _ e => ⟨_, e⟩)).trans' hS (fun k hk e => ?_)⟩⟩
          subst e
          exact ⟨(0, 0), by rw [← hX _ hk]; exact hR.fh⟩
        replace hend := Lib.hid hend
        clear hR r1 r2 r3 r4 hO hX
        go_wp2_with fail
        first | exact hend.out | exact bodyPost_end (results_none rfl _ _ _) rfl hend.out
  · have hm1 : countB R true = false := by simpa using hm
    have e3 : fenceP R t = countP R t true := by unfold fenceP; rw [if_neg hm]
    rw [e3] at hpost
    rw [hm1] at hco
    replace hpost := Lib.hid hpost
    replace hco := Lib.hid hco
    clear hr hm hm1 e3
    go_enter Try.func92, Try.ntmps92
    go_wp2_with fail
    refine hco.out.mono ?_
    rintro e w1 ⟨F1, rfl, h1, s1⟩
    have hfin : post (.returned (.tuple #[])) w1 := by rw [← hpost.out]; exact ⟨F1, rfl, h1, s1⟩
    replace hfin := Lib.hid hfin
    clear h1 s1
    go_wp2_with fail
    first | exact hfin.out | exact bodyPost_end (results_none rfl _ _ _) rfl hfin.out
end Go.Proofs.Ytikjpklbbjmioaa
