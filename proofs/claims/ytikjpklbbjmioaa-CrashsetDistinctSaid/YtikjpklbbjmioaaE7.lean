/- The reference's device: Flush. -/
import Derived.Test.YtikjpklbbjmioaaE6
import Derived.BigRegion
import Derived.Deep.RegionLaw
namespace Go.Proofs.Ytikjpklbbjmioaa
open Go.RowKit Go.Maps
variable {w : World} {F : Own} {o h T : Nat} {R : Dv}

theorem infoNote : (Try.prog.info? 175).map (fun i => (i.zero, i.size, i.bytes)) = some (some (.agg #[.int .i64 0, .int .i64 0]), 2, 16) := by kernel_rfl
theorem noteCells_one (l : List (Nat × Nat)) : ∀ u ∈ noteCells l, u.oneCell' = true := by
  intro u hu; unfold noteCells at hu; simp only [List.mem_flatMap] at hu; obtain ⟨p, _, hu⟩ := hu
  simp only [List.mem_cons, List.not_mem_nil, or_false] at hu
  rcases hu with rfl | rfl <;> rfl
def keptN (ns : List (Nat × Nat)) (l k : Nat) : List (Nat × Nat) := (ns.take k).filter (fun x => decide (x.1 ≠ l))
theorem keptN_succ (ns : List (Nat × Nat)) (l k : Nat) (x : Nat × Nat) (h : ns[k]? = some x) : keptN ns l (k + 1) = if x.1 = l then keptN ns l k else keptN ns l k ++ [x] := by
  unfold keptN
  rw [List.take_add_one, h, Option.toList_some, List.filter_append]
  by_cases e : x.1 = l
  · rw [if_pos e]; simp [e]
  · rw [if_neg e]; simp [e]
theorem keptN_all (ns : List (Nat × Nat)) (l c : Nat) : keptN ns l ns.length ++ [(l, c)] = noteL ns l c := by unfold keptN noteL; rw [List.take_length]
theorem keptN_len (ns : List (Nat × Nat)) (l k : Nat) : (keptN ns l k).length ≤ k := by
  unfold keptN; exact Nat.le_trans (List.length_filter_le _ _) (by rw [List.length_take]; omega)
structure FlSt (wq : World) (kn : List (Nat × Nat)) (a : Option Addr) (c : Nat) (wr : World) : Prop where
  own : wr.ownsRow 0 175 2 (.slice a kn.length c) kn.length (noteCells kn)
  b : Below wq.heap.size wq wr
  fr : ∀ j, Value.ownBlock (.slice a kn.length c) = some j → wq.heap.size ≤ j
theorem FlSt.alloc {wq wr : World} {kn : List (Nat × Nat)} {a : Option Addr} {c : Nat} (h : FlSt wq kn a c wr) (x : Obj) : FlSt wq kn a c (wr.alloc x) := ⟨h.own.alloc _, h.b.alloc h.b.size _, h.fr⟩
theorem FlSt.app {wq wr w' : World} {kn : List (Nat × Nat)} {a a' : Option Addr} {c c' : Nat} {x : Nat × Nat} (h : FlSt wq kn a c wr) (own : w'.ownsRow 0 175 2 (.slice a' (kn.length + 1) c') (kn.length + 1) (noteCells kn ++ [.int .i64 x.1, .int .i64 x.2]))
    (only : Only (fun k => Value.ownBlock (.slice a kn.length c) = some k) wr w') (fresh : ∀ k, Value.ownBlock (.slice a' (kn.length + 1) c') = some k → Value.ownBlock (.slice a kn.length c) = some k ∨ wr.heap.size ≤ k) : FlSt wq (kn ++ [x]) a' c' w' := by
  have hs := h.b.size
  refine ⟨?_, h.b.trans (only.below (B := wq.heap.size) hs (fun k _ e => h.fr k e)), ?_⟩
  · rw [noteCells_snoc]; simpa using own
  · intro j hj
    simp only [List.length_append, List.length_singleton] at hj
    rcases fresh j hj with h1 | h1
    · exact h.fr j h1
    · omega
set_option maxHeartbeats 8000000 in
set_option maxRecDepth 100000 in
theorem rflush_any (hr : RefSt w F o h T R) (hT : T + 2 ≤ 100000) {t off : Nat} (ht : t < 8) (hof : off < 18446744073709551616) :
    Calls Try.prog 90 #[.pointer (some ⟨h, 0, none⟩), .int .i64 (t : Int), .int .u64 (off : Int)] w (RPost w F o h (T + 2) (flushP R t off) (.tuple #[])) := by
  generalize hpost : RPost w F o h (T + 2) (flushP R t off) (.tuple #[]) = post
  obtain ⟨lb, lc, ns, h1, _⟩ := hr.ex
  have c := h1.cell (refCells_lines lb lc ns R)
  have hn2 := hr.ok.n2
  have htI : (t : Int) < 8 := by omega
  have ht0 : (0 : Int) ≤ (t : Int) := by omega
  have hco := rcounted_any hr (by omega) (R.inB off) ht
  have hin : R.inB off = decide ((off : Int) / 64 < (R.lines.length : Int)) := by unfold Dv.inB; apply decide_eq_decide.2; omega
  by_cases hm : countB R (R.inB off) = true
  · have hio : off < 64 * R.lines.length := by
      unfold countB at hm; simp only [Bool.and_eq_true] at hm
      have := hm.1.2
      unfold Dv.inB at this; simpa using this
    have e3 : flushP R t off = notedP (countP R t (R.inB off)) t (off / 64) := by unfold flushP; rw [if_pos hm]
    have elen := (countP_lines R t (R.inB off)).1
    have hlenQ : (countP R t (R.inB off)).lines.length = R.lines.length := by rw [elen]
    rw [e3] at hpost
    rw [hm, hin] at hco
    rw [hin] at hpost hlenQ
    have hokl := hr.ok.ln (off / 64) (by omega)
    have ht100 := hr.ok.t
    clear e3 hm hin elen
    generalize countP R t (decide ((off : Int) / 64 < (R.lines.length : Int))) = Q at *
    replace hco := Lib.hid hco
    clear hr h1 hokl
    go_enter Try.func90, Try.ntmps90
    go_wp2_with fail
    refine hco.out.mono ?_
    rintro e wq ⟨F1, rfl, q0, s1⟩
    obtain ⟨lb1, lc1, ns1, q1, q2, q3, q4⟩ := q0.ex
    have cn := q1.cell (refCells_note lb1 lc1 ns1 Q t ht)
    have cnf := q1.free (1 + t)
    have cl0 := q1.cell (refCells_lines lb1 lc1 ns1 Q)
    have hnt := q4 t ht
    obtain ⟨na, nc, hna, hnrd⟩ := hnt.1
    rw [hna] at cn
    have hok := q0.ok
    have hnl : (Q.notes.getD t []).length ≤ 4096 := by
      have h5 := hok.nd t ht
      have h6 : ∀ x ∈ (Q.notes.getD t []).map Prod.fst, x ∈ List.range 4096 := by
        intro x hx
        obtain ⟨y, hy, rfl⟩ := List.mem_map.1 hx
        have := (hok.no t ht y hy).1
        have := hok.n2
        simp; omega
      have := List.Nodup.length_le_of_subset h5 h6
      simpa using this
    have hi : off / 64 < Q.lines.length := by omega
    have hkl := (hok.ln (off / 64) hi).hl
    have hrd0 : Rd wq (.slice na (Q.notes.getD t []).length nc) (Q.notes.getD t []).length (noteCells (Q.notes.getD t [])) := by have := hnt.1; rw [hna] at this; exact this
    obtain ⟨va, vc, hlc, _⟩ := q2.cells hi
    have l8 := hlc.c8
    have l9 := hlc.c9
    rw [hlenQ] at cl0
    have hkI : ((off / 64 : Nat) : Int) < (R.lines.length : Int) := by omega
    have hxb : ∀ x ∈ Q.notes.getD t [], x.1 ≤ 4096 := fun x hx => by have := (hok.no t ht x hx).1; have := hok.n2; omega
    have hnoted := noted_ok hok (t := t) hi
    have hfin : ∀ (w2 w3 : World) (a : Option Addr) (cc : Nat), FlSt wq (noteL (Q.notes.getD t []) (off / 64) ((Q.line (off / 64)).done + (Q.line (off / 64)).hist.length)) a cc w2 → w3 = w2.setCell ⟨h, 1 + t, none⟩ (.slice a (noteL (Q.notes.getD t []) (off / 64) ((Q.line (off / 64)).done + (Q.line (off / 64)).hist.length)).length cc) → post (.returned (.tuple #[])) w3 := by
      rintro w2 w3 a cc hF rfl
      rw [← hpost]
      have hB := hF.b
      have hOb : Only (fun _ => False) wq w2 := ⟨hB.os, hB.tape, hB.output, hB.size, fun q hq _ => hB.block q hq⟩
      have hO : Only (fun k => k = h) wq (w2.setCell ⟨h, 1 + t, none⟩ (.slice a (noteL (Q.notes.getD t []) (off / 64) ((Q.line (off / 64)).done + (Q.line (off / 64)).hist.length)).length cc)) := Only.setCell (S := fun k => k = h) (hOb.mono (fun _ _ s => s.elim)) (a := ⟨h, 1 + t, none⟩) (fun _ => rfl) _
      have hrole : ∃ F', Ext wq F1 F' ∧ ∀ q, Value.ownBlock (.slice a (noteL (Q.notes.getD t []) (off / 64) ((Q.line (off / 64)).done + (Q.line (off / 64)).hist.length)).length cc) = some q → F' q = some (o, 3, t) := by
        cases hq : Value.ownBlock (.slice a (noteL (Q.notes.getD t []) (off / 64) ((Q.line (off / 64)).done + (Q.line (off / 64)).hist.length)).length cc) with
        | none => exact ⟨F1, Ext.refl _ _, fun q e => by cases e⟩
        | some b => exact ⟨F1.put b (o, 3, t), (Ext.refl wq F1).put (hF.fr b hq) _, fun q e => by cases e; exact Own.put_at _ _ _⟩
      obtain ⟨F', hx, hr'⟩ := hrole
      have hhl := q1.lt
      have hrd : Rd (w2.setCell ⟨h, 1 + t, none⟩ (.slice a (noteL (Q.notes.getD t []) (off / 64) ((Q.line (off / 64)).done + (Q.line (off / 64)).hist.length)).length cc)) (.slice a (noteL (Q.notes.getD t []) (off / 64) ((Q.line (off / 64)).done + (Q.line (off / 64)).hist.length)).length cc) _ _ :=
        (Rd.of_own hF.own).only (Only.setAt w2 h (1 + t) _) (by rintro q hq rfl; have := hF.fr _ hq; omega)
      have := q0.notes (v := .slice a (noteL (Q.notes.getD t []) (off / 64) ((Q.line (off / 64)).done + (Q.line (off / 64)).hist.length)).length cc) (S := fun k => k = h) ht hnoted q2 q3 q4 ((q1.only hOb (fun s => s)).set (1 + t) _) hO hx (fun k e => e) hhl ⟨hrd, fun _ q e => hr' q e, own_cap hF.own⟩
      exact ⟨F', rfl, this.up (by omega) hT, s1.trans ⟨hx, hO.mono (by rintro k _ rfl; exact ⟨_, q0.fh⟩)⟩⟩
    replace hfin := Lib.hid hfin
    have hst0 : FlSt wq (keptN (Q.notes.getD t []) (off / 64) 0) (some ⟨wq.heap.size, 0, none⟩) 0 (wq.alloc (.cells #[] 175)) := ⟨own_empty wq 175 2, (Below.refl _ _).alloc (Nat.le_refl _) _, fun j hj => by simp [Value.ownBlock] at hj; omega⟩
    have hall := fun c => keptN_all (Q.notes.getD t []) (off / 64) c
    replace hall := Lib.hid hall
    replace hna := Lib.hid hna
    replace hlenQ := Lib.hid hlenQ
    have hcnA : ∀ v, wq.cell? ⟨h, 1 + t, none⟩ = some v → (wq.alloc (.cells #[] 175)).cell? ⟨h, 1 + t, none⟩ = some v := fun v e => ((Only.refl (fun _ => False) wq).alloc _).cell e (fun s => s)
    have cnA := hcnA _ cn
    have hdI : ((Q.line (off / 64)).done : Int) ≤ 100000 := by omega
    have hhI : ((Q.line (off / 64)).hist.length : Int) ≤ 100000 := by omega
    have hwrp : IntKind.i64.wrap (((Q.line (off / 64)).done : Int) + ((Q.line (off / 64)).hist.length : Int)) = ((Q.line (off / 64)).done : Int) + ((Q.line (off / 64)).hist.length : Int) := IntWalk.i64_in _ (by omega)
    have hql := q1.lt
    clear hcnA hnt hnrd q4 q2 hlc hpost
    replace q0 := Lib.hid q0
    generalize Q.notes.getD t [] = nts at *
    go_wp2_with fail
    go_loopw [7, 34] (fun v i wr => ∃ (k : Nat) (a : Option Addr) (cc : Nat), k ≤ nts.length ∧ i = .int .i64 k ∧ v = .slice a (keptN nts (off / 64) k).length cc ∧ FlSt wq (keptN nts (off / 64) k) a cc wr) (fun _ i _ => nts.length - (intOf i).toNat)
    case atStart => exact ⟨0, _, _, Nat.zero_le _, rfl, rfl, hst0⟩
    case round =>
      clear hst0
      obtain ⟨k, a, cc, hk, rfl, rfl, hF⟩ := hrel
      have hkn := keptN_len nts (off / 64) k
      by_cases hlt : k < nts.length
      · have hlI : (k : Int) < (nts.length : Int) := by omega
        have hat := get_of_lt (0, 0) hlt
        have hsucc := keptN_succ nts (off / 64) k _ hat
        have hxl := hxb _ (List.mem_of_getElem? hat)
        generalize nts.getD k (0, 0) = x at *
        obtain ⟨x1, x2⟩ := x
        simp only at hsucc hxl
        obtain ⟨bl, ol, cl, ea, fa⟩ := (hrd0.kept hF.b).cells (by omega)
        simp only [Value.slice.injEq, true_and] at ea
        obtain ⟨rfl, hcap⟩ := ea
        replace hcap := Lib.hid hcap
        have k0 : wr.cell? ⟨bl, ol + k * 2, none⟩ = _ := fa _ _ (noteCells_get _ k _ hat).1
        have k1 : wr.cell? ⟨bl, ol + k * 2 + 1, none⟩ = _ := fa _ _ (noteCells_get _ k _ hat).2
        simp only at k0 k1
        have hH := Has.new wr [.int .i64 (x1 : Int), .int .i64 (x2 : Int)] 175
        have e0 := hH.cell (o := 0) rfl
        have e1 := hH.cell (o := 1) rfl
        have hFa := hF.alloc (.cells #[.int .i64 (x1 : Int), .int .i64 (x2 : Int)] 175)
        generalize hkk : keptN nts (off / 64) k = kn at *
        replace hkk := Lib.hid hkk
        replace hat := Lib.hid hat
        by_cases he : x1 = off / 64
        · rw [if_pos he] at hsucc
          have hb : ((x1 : Int) != (off : Int) / 64) = false := by rw [bne_eq_false_iff_eq]; omega
          have hrel : ∃ (k' : Nat) (a' : Option Addr) (c' : Nat), k' ≤ nts.length ∧ Value.int .i64 ((k : Int) + 1) = .int .i64 k' ∧ Value.slice a kn.length cc = .slice a' (keptN nts (off / 64) k').length c' ∧ FlSt wq (keptN nts (off / 64) k') a' c' (wr.alloc (.cells #[.int .i64 (x1 : Int), .int .i64 (x2 : Int)] 175)) :=
            ⟨k + 1, a, cc, by omega, by go_num, by rw [hsucc], by rw [hsucc]; exact hFa⟩
          replace hrel := Lib.hid hrel
          replace hsucc := Lib.hid hsucc
          replace he := Lib.hid he
          replace hkn := Lib.hid hkn
          clear hF hFa hH fa
          go_wp2_with fail
          go_roundw
          case rel => exact hrel.out
          case measure => simp [intOf]; omega
        · rw [if_neg he] at hsucc
          have hb : ((x1 : Int) != (off : Int) / 64) = true := by rw [bne_iff_ne]; omega
          have hA2 := Has.new (wr.alloc (.cells #[.int .i64 (x1 : Int), .int .i64 (x2 : Int)] 175)) [.int .i64 (x1 : Int), .int .i64 (x2 : Int)] 175
          simp only [World.size_alloc] at hA2
          have A0 := hA2.cell (o := 0) rfl
          have A1 := hA2.cell (o := 1) rfl
          have hFb := hFa.alloc (.cells #[.int .i64 (x1 : Int), .int .i64 (x2 : Int)] 175)
          have hownb := hFb.own
          replace hsucc := Lib.hid hsucc
          replace he := Lib.hid he
          go_wp2_with (at_builtin; refine wpList_app rfl (.tmp 42) (.tmp 44) 106 rfl 175 (.agg #[.int .i64 0, .int .i64 0]) 2 16 Try.underlying106 infoNote rfl (by decide) (by decide) a kn.length cc (noteCells kn) hownb rfl _ 1 1 [.int .i64 x1, .int .i64 x2] rfl rfl ?hnews (by simp [Value.oneCell']) (by omega) ?_)
          case hnews =>
            intro j u hj
            match j, hj with
            | 0, hj => simp at hj; subst hj; exact A0
            | 1, hj => simp at hj; subst hj; exact A1
            | j + 2, hj => simp at hj
          intro sa cap w1 own1 only1 fresh1
          have hn := hFb.app (x := (x1, x2)) own1 only1 (by intro q hq; rcases fresh1 q hq with h5 | h5; exact .inl h5; exact .inr (by first | exact h5 | simpa using h5))
          have hrel : ∃ (k' : Nat) (a' : Option Addr) (c' : Nat), k' ≤ nts.length ∧ Value.int .i64 ((k : Int) + 1) = .int .i64 k' ∧ Value.slice sa (kn.length + 1) cap = .slice a' (keptN nts (off / 64) k').length c' ∧ FlSt wq (keptN nts (off / 64) k') a' c' w1 :=
            ⟨k + 1, sa, cap, by omega, by go_num, by rw [hsucc.out]; simp, by rw [hsucc.out]; exact hn⟩
          replace hrel := Lib.hid hrel
          clear hn own1 only1 fresh1 hownb hFb A0 A1 hA2 hF hFa hH fa
          go_wp2_with fail
          go_roundw
          case rel => exact hrel.out
          case measure => simp [intOf]; omega
      · obtain rfl : k = nts.length := by omega
        generalize hkk : keptN nts (off / 64) nts.length = kn at *
        have hB := hF.b
        have cl0r := bcell2 hB cl0
        have l8r := bcell2 hB l8
        have l9r := bcell2 hB l9
        have cnr := bcell2 hB cn
        have cnfr : wr.frozen? ⟨h, 1 + t, none⟩ = false := by rw [hB.frozen (p := ⟨h, 1 + t, none⟩) hql]; exact cnf
        have hA2 := Has.new wr.drew [.int .i64 ((off : Int) / 64), .int .i64 (((Q.line (off / 64)).done : Int) + ((Q.line (off / 64)).hist.length : Int))] 175
        have A0 := hA2.cell (o := 0) rfl
        have A1 := hA2.cell (o := 1) rfl
        have hk0I : (0 : Int) ≤ (off : Int) / 64 := by omega
        have hkI2 : (off : Int) / 64 < (R.lines.length : Int) := by omega
        have hkn2 : ((off : Int) / 64).toNat = off / 64 := by omega
        have hsz := hB.size
        have hFd : FlSt wq kn a cc (wr.drew.alloc (.cells #[.int .i64 ((off : Int) / 64), .int .i64 (((Q.line (off / 64)).done : Int) + ((Q.line (off / 64)).hist.length : Int))] 175)) := (⟨hF.own.drew, below_drewN hB 1, hF.fr⟩ : FlSt wq kn a cc wr.drew).alloc _
        have hownd := hFd.own
        have hfx := fun w2 w3 a cc => hfin.out w2 w3 a cc
        rw [← hall.out] at hfx
        replace hfx := Lib.hid hfx
        replace hkk := Lib.hid hkk
        go_wp2_with fail
        have hhA := ((q1.only (Only.of_below hB) (Nat.not_le.2 hql)).drew).alloc (.cells #[.int .i64 ((off : Int) / 64), .int .i64 (((Q.line (off / 64)).done : Int) + ((Q.line (off / 64)).hist.length : Int))] 175)
        have hnoh : ¬ Value.ownBlock (.slice a kn.length cc) = some h := fun e => by have := hF.fr _ e; omega
        clear hF
        go_region_law ((refine step_app2 (by rfl) _ _ _ (by rfl) 175 (.agg #[.int .i64 0, .int .i64 0]) 2 16 Try.underlying106 infoNote (by rfl) (by decide) (by decide) a kn.length cc (noteCells kn) hownd (by rfl) ⟨wr.heap.size, 0, none⟩ 1 1 [.int .i64 ((off : Int) / 64), .int .i64 (((Q.line (off / 64)).done : Int) + ((Q.line (off / 64)).hist.length : Int))] (by rfl) rfl (news_two A0 A1) (by simp [Value.oneCell']) (by omega) ?_; intro sb capb w3 own3 only3 fresh3; have h3 := hhA.only only3 hnoh; have c3 := h3.cell (refCells_note lb1 lc1 ns1 Q t ht); have f3 := h3.free (1 + t)))
        all_goals
          have hn := hFd.app (x := (off / 64, (Q.line (off / 64)).done + (Q.line (off / 64)).hist.length)) (by rw [show (((off / 64 : Nat) : Int)) = (off : Int) / 64 from by omega, Int.natCast_add]; exact own3) only3 (by intro q hq; rcases fresh3 q hq with h5 | h5; exact .inl h5; exact .inr (by first | exact h5 | simpa using h5))
          have hx := hfx.out w3 _ sb capb hn rfl
          rw [show (kn ++ [(off / 64, (Q.line (off / 64)).done + (Q.line (off / 64)).hist.length)]).length = kn.length + 1 from by simp] at hx
          replace hx := Lib.hid hx
          clear hn own3 only3 fresh3 h3
          go_wp2_with fail
          first | exact hx.out | exact bodyPost_end (results_none rfl _ _ _) rfl hx.out
  · have hm1 : countB R (R.inB off) = false := by simpa using hm
    have e3 : flushP R t off = countP R t (R.inB off) := by unfold flushP; rw [if_neg hm]
    rw [e3] at hpost
    rw [hm1, hin] at hco
    rw [hin] at hpost
    replace hpost := Lib.hid hpost
    replace hco := Lib.hid hco
    clear hr hm hm1 e3 hin h1
    go_enter Try.func90, Try.ntmps90
    go_wp2_with fail
    refine hco.out.mono ?_
    rintro e w1 ⟨F1, rfl, h1, s1⟩
    have hfin : post (.returned (.tuple #[])) w1 := by rw [← hpost.out]; exact ⟨F1, rfl, h1.up (by omega) hT, s1⟩
    replace hfin := Lib.hid hfin
    clear h1 s1
    go_wp2_with fail
    first | exact hfin.out | exact bodyPost_end (results_none rfl _ _ _) rfl hfin.out
end Go.Proofs.Ytikjpklbbjmioaa
