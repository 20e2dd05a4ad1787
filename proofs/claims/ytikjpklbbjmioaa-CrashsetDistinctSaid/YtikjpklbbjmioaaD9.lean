/- The program's device: WriteBack, Flush. -/
import Derived.Test.YtikjpklbbjmioaaD8
import Derived.IntWalk
namespace Go.Proofs.Ytikjpklbbjmioaa
open Go.RowKit Go.Maps
variable {w : World} {F : Own} {o T : Nat} {L : Lay} {R : Dv}

theorem SubV.slice {w : World} {e : TypeId} {size : Nat} {v : Value} {n : Nat} {xs : List Value} (h : SubV w e size v n xs) : ∃ a c, v = .slice a n c := by
  rcases h.2 with ⟨h1, rfl⟩ | ⟨b, off, cap, cur, hv, _⟩
  · exact ⟨none, 0, h1⟩
  · exact ⟨_, _, hv⟩
set_option maxHeartbeats 4000000 in
theorem back_any (h : DevSt w F o L T R) (l k : Int) :
    Calls Try.prog 93 #[.pointer (some ⟨L.g, 0, none⟩), .int .i64 l, .int .i64 k] w (DPost w F o L T (backP R l k) (.bool (backB R l k))) := by
  generalize hpost : DPost w F o L T (backP R l k) (.bool (backB R l k)) = post
  have d4 := h.dev.cell (o := 11) rfl
  have d2 := h.dev.cell (o := 2) rfl
  have hno : backB R l k = false → post (.returned (.bool false)) w := by
    intro hb
    rw [← hpost]
    refine ⟨F, by rw [hb], ?_, Dstep.refl _ _ _⟩
    unfold backP; rw [hb]; exact h
  cases hoff : R.off with
  | true =>
    rw [hoff] at d4
    have hfin := Lib.hid (hno (by simp [backB, hoff]))
    clear hpost hno hoff h
    go_enter Try.func93, Try.ntmps93
    go_wp2_with fail
    exact hfin.out
  | false =>
    rw [hoff] at d4
    by_cases hl0 : l < 0
    · have hfin := Lib.hid (hno (by unfold backB; rw [decide_eq_false (by omega), Bool.and_false]))
      have e1 : decide (l < 0) = true := decide_eq_true hl0
      clear hpost hno hoff h
      go_enter Try.func93, Try.ntmps93
      go_wp2_with fail
      exact hfin.out
    · have e1 : decide (l < 0) = false := decide_eq_false hl0
      by_cases hln : (R.lines.length : Int) ≤ l
      · have hfin := Lib.hid (hno (by unfold backB; rw [decide_eq_false (by omega), Bool.and_false]))
        clear hpost hno hoff h
        go_enter Try.func93, Try.ntmps93
        go_wp2_with fail
        exact hfin.out
      · obtain ⟨i, rfl⟩ := Int.eq_ofNat_of_zero_le (show 0 ≤ l by omega)
        have hi : i < R.lines.length := by omega
        have hiI : (i : Int) < (R.lines.length : Int) := by omega
        have hi0 : (0 : Int) ≤ (i : Int) := by omega
        by_cases hk0 : k < 0
        · have hfin := Lib.hid (hno (by unfold backB; rw [decide_eq_false (by omega), Bool.and_false]))
          have e2 : decide (k < 0) = true := decide_eq_true hk0
          clear hpost hno hoff h
          go_enter Try.func93, Try.ntmps93
          go_wp2_with fail
          exact hfin.out
        · obtain ⟨q, rfl⟩ := Int.eq_ofNat_of_zero_le (show 0 ≤ k by omega)
          have e2 : decide ((q : Int) < 0) = false := decide_eq_false hk0
          obtain ⟨cs, hv', hL, hcl, hlin⟩ := h.lin
          obtain ⟨x0, x1, hsub, hrole⟩ := hlin _ hi
          have l1 := hL.cell x1
          obtain ⟨a, c, hva⟩ := hsub.slice
          rw [hva] at l1
          by_cases hq : (R.line i).hist.length < q
          · have hfin := Lib.hid (hno (by unfold backB; rw [decide_eq_false (by simp only [Int.toNat_natCast]; omega), Bool.and_false]))
            have hqI : ((R.line i).hist.length : Int) < (q : Int) := by omega
            clear hpost hno hoff h hsub hlin hL hva hrole
            go_enter Try.func93, Try.ntmps93
            go_wp2_with fail
            exact hfin.out
          · have hb : backB R i q = true := by
              unfold backB; rw [decide_eq_true (by simp only [Int.toNat_natCast]; omega), hoff]; rfl
            have hbp : backP R i q = R.setLine i (persistL (R.line i) q) := by unfold backP; rw [if_pos hb]; simp only [Int.toNat_natCast]
            have hp := Lib.hid (persist_any h hi (k := q) (by omega))
            have hfin : ∀ w1, PPost w F o L T (R.setLine i (persistL (R.line i) q)) (.returned (.tuple #[])) w1 → post (.returned (.bool true)) w1 := by
              rintro w1 ⟨_, h1, h2⟩
              rw [← hpost, hb, hbp]
              obtain ⟨F1, _, h3, h4⟩ := h.pp ⟨rfl, h1, h2⟩
              exact ⟨F1, rfl, h3, h4⟩
            have hqI : ¬ ((R.line i).hist.length : Int) < (q : Int) := by omega
            replace hfin := Lib.hid hfin
            clear hpost hno hoff h hsub hlin hL hva hrole hb hbp
            go_enter Try.func93, Try.ntmps93
            go_wp2_with fail
            refine hp.out.mono ?_
            rintro e w1 ⟨rfl, h1, h2⟩
            have hx := Lib.hid (hfin.out w1 ⟨rfl, h1, h2⟩)
            clear h1 h2
            go_wp2_with fail
            exact hx.out

theorem noted_ok (h : R.Ok T) {t l : Nat} (hl : l < R.lines.length) : (notedP R t l).Ok T := by
  have key : ∀ t', t' < 8 → (R.notes.set t (noteL (R.notes.getD t []) l ((R.line l).done + (R.line l).hist.length))).getD t' [] = if t' = t then noteL (R.notes.getD t []) l ((R.line l).done + (R.line l).hist.length) else R.notes.getD t' [] := by
    intro t' ht'
    by_cases e : t' = t
    · subst e; rw [if_pos rfl, List.getD, List.getElem?_set_self (by rw [h.nl]; exact ht')]; rfl
    · rw [if_neg e, List.getD, List.getElem?_set_ne (Ne.symm e)]; rfl
  refine ⟨h.t, h.n1, h.n2, h.ln, by simpa [notedP] using h.nl, fun t' ht' => ?_, fun t' ht' x hx => ?_, h.el, h.ev, h.l1, h.l2, h.x⟩
  · show ((R.notes.set t _).getD t' []).map Prod.fst |>.Nodup
    rw [key t' ht']
    split
    · unfold noteL
      rw [List.map_append, List.nodup_append]
      rename_i e; subst e
      refine ⟨((h.nd t' ht').sublist (List.Sublist.map _ List.filter_sublist)), by simp, ?_⟩
      intro a ha b hb
      simp only [List.map_cons, List.map_nil, List.mem_singleton] at hb
      subst hb
      simp only [List.mem_map, List.mem_filter, decide_eq_true_eq] at ha
      obtain ⟨x, ⟨_, h2⟩, rfl⟩ := ha
      exact h2
    · exact h.nd t' ht'
  · have hx' : x ∈ (R.notes.set t (noteL (R.notes.getD t []) l ((R.line l).done + (R.line l).hist.length))).getD t' [] := hx
    rw [key t' ht'] at hx'
    split at hx'
    · rename_i e; subst e
      unfold noteL at hx'
      simp only [List.mem_append, List.mem_filter, List.mem_singleton] at hx'
      rcases hx' with ⟨h1, _⟩ | rfl
      · exact h.no t' ht' x h1
      · exact ⟨hl, Nat.le_refl _⟩
    · exact h.no t' ht' x hx'
/-- A note has been taken. -/
theorem DevSt.noted {w w' : World} (h : DevSt w F o L T R) {t l : Nat} (ht : t < 8) (hl : l < R.lines.length) (ho : Only (fun k => k = L.nb t) w w')
    (hn : NoteV w' (L.nb t) (T + 1) R.lines.length (fun k => if k = l then some ((R.line l).done + (R.line l).hist.length) else noteF (R.notes.getD t []) k)) (hT : T + 1 ≤ 100000) :
    DevSt w' F o L (T + 1) (notedP R t l) := by
  have hF := (h.nov t ht).2
  have ne : ∀ {b : Nat} {r : Nat × Nat}, F b = some (o, r) → r ≠ (6, t) → ¬ b = L.nb t := fun hb hr => Own.ne hb hF (fun e => hr (by cases e; rfl))
  refine ⟨(noted_ok h.ok hl).up (by omega) hT, h.dev.only ho (ne h.fg (by simp)), h.fg, ownsRow_only h.per ho (by rintro k hk; cases hk; exact ne h.fp (by simp)), h.fp, ownsRow_only h.cur ho (by rintro k hk; cases hk; exact ne h.fc (by simp)), h.fc,
    h.lin.kept h.fl ho (Ext.refl _ _) (fun k s => ⟨fun e => ne e (by simp) s, fun i e => ne e (by simp) s⟩), h.fl, fun t' ht' => ?_, fun t' ht' => ?_⟩
  · obtain ⟨h1, h2⟩ := h.thr t' ht'; exact ⟨h1.only ho (ne h2 (by simp)), h2⟩
  · obtain ⟨h1, h2⟩ := h.nov t' ht'
    refine ⟨?_, h2⟩
    by_cases e : t' = t
    · subst e
      have e1 : (notedP R t' l).notes.getD t' [] = noteL (R.notes.getD t' []) l ((R.line l).done + (R.line l).hist.length) := by
        show (R.notes.set t' _).getD t' [] = _
        rw [List.getD, List.getElem?_set_self (by rw [h.ok.nl]; exact ht')]; rfl
      rw [e1, noteF_noteL]; exact hn
    · have e1 : (notedP R t l).notes.getD t' [] = R.notes.getD t' [] := by
        show (R.notes.set t _).getD t' [] = _
        rw [List.getD, List.getElem?_set_ne (Ne.symm e)]; rfl
      rw [e1]; exact (h1.only ho (ne h2 (by simp [e]))).up (by omega)

set_option maxHeartbeats 4000000 in
set_option maxRecDepth 100000 in
theorem flush_any (h : DevSt w F o L T R) (hT : T + 2 ≤ 100000) {t off : Nat} (ht : t < 8) (hof : off < 18446744073709551616) :
    Calls Try.prog 89 #[.pointer (some ⟨L.tb t, 0, none⟩), .int .u64 (off : Int)] w (DPost w F o L (T + 2) (flushP R t off) (.tuple #[])) := by
  generalize hpost : DPost w F o L (T + 2) (flushP R t off) (.tuple #[]) = post
  have c0 := (h.thr t ht).1.cell (o := 0) rfl
  have hn2 := h.ok.n2
  have hsz := Lib.hid (size_any h)
  have hco := counted_any w F o T t (R.inB off) L R h (by omega) ht
  have hin : R.inB off = decide ((off : Int) < (R.lines.length : Int) * 64) := by unfold Dv.inB; apply decide_eq_decide.2; omega
  by_cases hm : countB R (R.inB off) = true
  · have hio : off < 64 * R.lines.length := by
      unfold countB at hm; simp only [Bool.and_eq_true] at hm
      have := hm.1.2
      unfold Dv.inB at this; simpa using this
    have e3 : flushP R t off = notedP (countP R t (R.inB off)) t (off / 64) := by unfold flushP; rw [if_pos hm]
    have elen := (countP_lines R t (R.inB off)).1
    have elin := countP_line R t (R.inB off) (off / 64)
    have enot := (countP_lines R t (R.inB off)).2
    rw [e3] at hpost
    rw [hm, hin] at hco
    rw [hin] at hpost elen elin enot
    have hok := h.ok.ln (off / 64) (by omega)
    have hhl := hok.hl
    have ht100 := h.ok.t
    replace hpost := Lib.hid hpost
    replace hco := Lib.hid hco
    replace elen := Lib.hid elen
    replace elin := Lib.hid elin
    replace enot := Lib.hid enot
    clear h hm e3 hin hok
    go_enter Try.func89, Try.ntmps89
    go_wp2_with fail
    refine hsz.out.mono ?_
    rintro e w' ⟨rfl, rfl⟩
    go_wp2_with fail
    refine hco.out.mono ?_
    rintro e w1 ⟨F1, rfl, h1, s1⟩
    have elo := elen.out
    have hth := (h1.thr t ht).1
    have c0 := hth.cell (o := 0) rfl
    have c3 := hth.cell (o := 3) rfl
    have d2 := h1.dev.cell (o := 2) rfl
    rw [elo] at d2
    obtain ⟨cs, hv', hL, hcl, hlin⟩ := h1.lin
    obtain ⟨x0, x1, hsub, hrole⟩ := hlin (off / 64) (by rw [elo]; omega)
    obtain ⟨a, c, hva⟩ := hsub.slice
    have l0 := hL.cell x0
    have l1 := hL.cell x1
    rw [hva] at l1
    rw [elin.out] at l0 l1
    obtain ⟨D, hD1, hD2, hD3, hD4, hD5⟩ := (h1.nov t ht).1
    have hkI : ((off / 64 : Nat) : Int) < (R.lines.length : Int) := by omega
    have hdn : ((R.line (off / 64)).done : Int) ≤ 100000 := by omega
    have hhn : ((R.line (off / 64)).hist.length : Int) ≤ 100000 := by omega
    have hfk := hpost.out
    have hod : (off : Int) / 64 = ((off / 64 : Nat) : Int) := by omega
    have hkey := keyOf_int_mk Try.underlying3 (a := (off : Int) / 64) (q := .i64) (P := Try.prog) (by rw [hod]; exact wf_i64 (by omega))
    replace hod := Lib.hid hod
    have hwr0 : IntKind.u64.wrap ((R.line (off / 64)).hist.length : Int) = ((R.line (off / 64)).hist.length : Int) := IntWalk.u64_in _ (by omega)
    have hwr : IntKind.u64.wrap (((R.line (off / 64)).done : Int) + ((R.line (off / 64)).hist.length : Int)) = ((R.line (off / 64)).done : Int) + ((R.line (off / 64)).hist.length : Int) := IntWalk.u64_in _ (by omega)
    have hval := plainElem_int (H := Unit) Try.underlying22 (a := ((R.line (off / 64)).done : Int) + ((R.line (off / 64)).hist.length : Int)) (q := .u64) (P := Try.prog) (by rw [← Int.natCast_add]; exact wf_u64 (by omega))
    replace hfk := Lib.hid hfk
    replace elo := Lib.hid elo
    generalize hhd : (R.line (off / 64)).done = dn at *
    generalize hhh : (R.line (off / 64)).hist.length = hn at *
    replace hhd := Lib.hid hhd
    replace hhh := Lib.hid hhh
    have hD1' : w1.drew.ownsMap Try.prog 3 (plainElem Try.prog 22) (L.nb t) (T + 1) D := hD1
    replace h1 := Lib.hid h1
    replace hva := Lib.hid hva
    clear hlin hsub hrole hL x0 x1 hD1 hth
    go_wp2_with fail
    refine region_tail 16 (by kernel_rfl) (by kernel_rfl) ?_
    simp only [List.take_succ_cons, List.take_zero, List.drop_succ_cons, List.drop_zero]
    repeat still_step
    refine wpStill_nil ?_
    go_wp2_with (at_mapUpdate; refine wpList_mapUpdate_own _ rfl _ _ _ 95 rfl 3 22 key3 Try.underlying95 _ (L.nb t) (T + 1) D rfl hD1' (by unfold maxLen; omega) _ _ _ rfl rfl hkey _ [] hval ?_; intro w6 hown6 hgrow6)
    clear hwr hwr0
    have O6 : Only (fun k => k = L.nb t) w1 w6 := ((Only.refl (fun k => k = L.nb t) w1).drew).trans ((Only.of_grown hgrow6).mono fun k _ e => by simpa using e)
    have hfin : post (.returned (.tuple #[])) w6 := by
      rw [← hfk.out]
      rw [← Int.natCast_add, hod.out] at hown6
      have hNV := NoteV.put (l := off / 64) (n := R.lines.length) (by omega) (by omega) hD2 (by rw [elo.out] at hD3; exact hD3) hD4 hD5 hown6
      have h2 := h1.out.noted (l := off / 64) ht (by rw [elo.out]; omega) O6 (by rw [elo.out, elin.out, hhd.out, hhh.out]; exact hNV) (by omega)
      refine ⟨F1, rfl, h2, s1.trans (Dstep.mk' O6 ?_)⟩
      rintro b rfl
      exact ⟨_, (h1.out.nov t ht).2⟩
    replace hfin := Lib.hid hfin
    clear hown6 hgrow6 O6 s1 hD1' hD3 hD4 hD5
    go_wp2_with fail
    first | exact hfin.out | exact bodyPost_end (results_none rfl _ _ _) rfl hfin.out
  · have hm1 : countB R (R.inB off) = false := by simpa using hm
    have e3 : flushP R t off = countP R t (R.inB off) := by unfold flushP; rw [if_neg hm]
    rw [e3] at hpost
    rw [hm1, hin] at hco
    rw [hin] at hpost
    replace hpost := Lib.hid hpost
    replace hco := Lib.hid hco
    clear h hm hm1 e3 hin
    go_enter Try.func89, Try.ntmps89
    go_wp2_with fail
    refine hsz.out.mono ?_
    rintro e w' ⟨rfl, rfl⟩
    go_wp2_with fail
    refine hco.out.mono ?_
    rintro e w1 ⟨F1, rfl, h1, s1⟩
    have hfin : post (.returned (.tuple #[])) w1 := by rw [← hpost.out]; exact ⟨F1, rfl, h1.up (by omega) hT, s1⟩
    replace hfin := Lib.hid hfin
    clear h1 s1
    go_wp2_with fail
    first | exact hfin.out | exact bodyPost_end (results_none rfl _ _ _) rfl hfin.out
end Go.Proofs.Ytikjpklbbjmioaa
