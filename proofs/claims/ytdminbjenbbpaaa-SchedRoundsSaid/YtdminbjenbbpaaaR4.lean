/- Contracts of the specification's All and RoundRobin. -/
import Derived.Test.YtdminbjenbbpaaaP4
import Derived.Deep.LoopGhost
namespace Go.Proofs.Ytdminbjenbbpaaa
open Go.RowKit

theorem rinnerP_stop (sizes : List Int) (bound : Int) (l : RL) (k : Nat) (h : bound ≤ (rinnerP sizes bound l k).steps.length) : ∀ j, rinnerP sizes bound l (k + j) = rinnerP sizes bound l k
  | 0 => rfl
  | j + 1 => by
    rw [← Nat.add_assoc, rinnerP_succ, rinnerP_stop sizes bound l k h j, rinner1, if_pos h]
theorem allE_not (es : List Int) (k : Nat) (h : k < es.length) (hn : es.getD k 0 < 0) : allE es = false := by
  unfold allE
  rw [List.all_eq_false]
  refine ⟨es.getD k 0, ?_, by simp only [decide_eq_true_eq]; omega⟩
  rw [List.getD, List.getElem?_eq_getElem h]; exact List.getElem_mem _
theorem allE_snoc (es : List Int) (x : Int) : allE (es ++ [x]) = (allE es && decide (0 ≤ x)) := by simp [allE]

set_option maxHeartbeats 1000000 in
theorem all_any (sv : Value) (ea : Option Addr) (ec : Nat) (es : List Int) (w : World) (hs : Rd w (.slice ea es.length ec) es.length (es.map (.int .i64))) (hl : es.length < 1099511627776) :
    Calls Try.prog 20 #[.agg #[sv, .slice ea es.length ec]] w fun e w' => e = .returned (.bool (allE es)) ∧ w.alloc (.cells #[sv, .slice ea es.length ec] 31) = w' := by
  have hk := hs.kept (w' := w.alloc (.cells #[sv, .slice ea es.length ec] 31)) ((Below.refl _ _).alloc (Nat.le_refl _) _)
  obtain ⟨sa', sc', he, hc⟩ := hk
  simp only [Value.slice.injEq, true_and] at he
  obtain ⟨rfl, rfl⟩ := he
  clear hs
  go_enter Try.func20, Try.ntmps20
  go_wp2_with fail
  go_loop [3] (fun i => ∃ k : Nat, k ≤ es.length ∧ i = .int .i64 k ∧ Hid (allE (es.take k) = true)) (fun i => es.length - (intOf i).toNat)
  case atStart => exact ⟨0, Nat.zero_le _, rfl, rfl⟩
  case round =>
    obtain ⟨k, hk, rfl, hall⟩ := hrel
    by_cases hlt : k < es.length
    · rcases hc with ⟨h0, _⟩ | ⟨b, off, rfl, hc⟩
      · omega
      have c := hc k _ (ints_get es .i64 k hlt)
      have hno := allE_not es k hlt
      have hsn := allE_snoc (es.take k) (es.getD k 0)
      rw [← take_getD es k 0 hlt, hall.out] at hsn
      generalize es.getD k 0 = x at *
      clear hc
      by_cases hx : x < 0
      · have h1 := Lib.hid (hno hx)
        clear hno hsn
        go_wp2
        go_ret
        exact ⟨by rw [h1.out]; rfl, rfl⟩
      · have h1 : allE (es.take (k+1)) = true := by rw [hsn]; simp; omega
        replace h1 := Lib.hid h1
        clear hno hsn
        go_wp2
        go_round
        case rel => exact ⟨k + 1, by omega, by go_num, h1⟩
        case measure => simp [intOf]; omega
    · have : k = es.length := by omega
      subst this
      rw [List.take_of_length_le (Nat.le_refl _)] at hall
      go_wp2
      go_ret
      exact ⟨by rw [hall.out]; rfl, rfl⟩

theorem RSt.only {w w2 : World} {rb lb : Nat} {sa : Option Addr} {sc : Nat} {ea : Option Addr} {ec : Nat} {l : RL} (h : RSt w rb lb sa sc ea ec l) (ho : Below w.heap.size w w2) : RSt w2 rb lb sa sc ea ec l := by
  have h1 := h.res.lt
  have h2 := h.var.lt
  have ho' := Only.of_below ho
  exact ⟨h.res.only ho' (by omega), h.var.only ho' (by omega), ⟨ownsRow_only h.log.st ho' (fun k hk => by have := ownsRow_lt h.log.st hk; omega), ownsRow_only h.log.en ho' (fun k hk => by have := ownsRow_lt h.log.en hk; omega), h.log.ne⟩, h.ne, h.os, h.oe⟩

set_option maxHeartbeats 4000000 in
theorem rround_any (w : World) (za : Option Addr) (zc : Nat) (sizes : List Int) (bound : Int) (hz : Rd w (.slice za sizes.length zc) sizes.length (sizes.map (.int .i64))) (hn : sizes.length < 1000000) (hzb : ∀ z ∈ sizes, z ≤ 20)
    (hbd : -9223372036854775808 ≤ bound ∧ bound ≤ 9223372036854775807) :
    Calls Try.prog 19 #[.slice za sizes.length zc, .int .i64 bound] w (RRunLeft w sizes.length (rrR sizes bound (bound.toNat + 1) ⟨[], List.replicate sizes.length (-1)⟩)) := by
  generalize hfin : rrR sizes bound (bound.toNat + 1) ⟨[], List.replicate sizes.length (-1)⟩ = fin
  generalize hpost : RRunLeft w sizes.length fin = post
  have Hpost := Lib.hid hpost
  have Hfin := Lib.hid hfin
  clear hpost hfin
  have hmsl : (sizes.map (fun _ => some 0) : List (Option Nat)).length = sizes.length := by simp
  have hnn : ∀ m ∈ (sizes.map (fun _ => some 0) : List (Option Nat)), m ≠ none := by simp
  have hI0 := inv_start (sizes.map (fun _ => some 0)) sizes hmsl hzb
  have hA0 := agree_start sizes (sizes.map (fun _ => some 0)) hmsl
  generalize (sizes.map (fun _ => some 0) : List (Option Nat)) = ms at *
  have A0 := Has.new w [.slice none 0 0, .slice none 0 0] 31
  have hB0 : Below w.heap.size w (w.alloc (.cells #[.slice none 0 0, .slice none 0 0] 31)) := (Below.refl _ _).alloc (Nat.le_refl _) _
  replace hmsl := Lib.hid hmsl
  go_enter Try.func19, Try.ntmps19
  go_wp2_with (go_at_call 35; refine (begin_any _ sizes.length _ ⟨_, _, rfl⟩ (by omega)).mono ?_)
  rintro e w1 ⟨ea, ec, rfl, hown, hB1, hob⟩
  have hsz1 := hB1.size
  simp only [World.size_alloc] at hsz1 hob
  have A1 := (A0.only (Only.of_below hB1) (by simp)).alloc (.cells #[.slice none 0 0, .slice ea sizes.length ec] 31)
  have A2 := Has.new w1 [.slice none 0 0, .slice ea sizes.length ec] 31
  have hB2 := (hB0.trans (hB1.mono (by simp))).alloc (by omega) (.cells #[.slice none 0 0, .slice ea sizes.length ec] 31)
  have hoe := hown.alloc (.cells #[.slice none 0 0, .slice ea sizes.length ec] 31)
  have hel : ∀ k, Value.ownBlock (.slice ea sizes.length ec) = some k → k ≠ w1.heap.size ∧ w.heap.size < k := fun k hk => by have := hob k hk; have := ownsRow_lt hown hk; omega
  have hne : w.heap.size ≠ w1.heap.size := by omega
  have HI : RSt (w1.alloc (.cells #[.slice none 0 0, .slice ea sizes.length ec] 31)) w.heap.size w1.heap.size none 0 ea ec ⟨[], List.replicate sizes.length (-1)⟩ :=
    ⟨A1, by simpa using A2, ⟨World.ownsRow_nil _ _ _ _, by simpa using hoe, by simp [Value.ownBlock]⟩, hne, by simp [Value.ownBlock], by simpa using hel⟩
  clear A0 A1 A2 hoe hown hB0 hB1 hob
  go_wp2_with fail
  go_loopg [6] (bound.toNat + 1) (fun g i wr => ∃ (s : RS) (l : RL) (sa : Option Addr) (sc : Nat), RSt wr w.heap.size w1.heap.size sa sc ea ec l ∧ Agree sizes s l ∧ Inv ms (20 * sizes.length) s ∧ Below w.heap.size w wr ∧ Hid (rrR sizes bound g l = fin) ∧ (bound - l.steps.length).toNat < g)
  case atStart => exact ⟨_, _, none, 0, HI, hA0, hI0, hB2, Hfin, by simp⟩
  case round =>
    clear HI hB2 hA0 hI0 Hfin
    obtain ⟨s, l, sa, sc, hR, hA, hI, hB, hfin, hg⟩ := hrel
    have hbs := hI.tot
    rw [hA.st] at hbs
    have hle := hA.le
    rw [hA.en] at hle
    have hv := hR.var
    have v0 := hv.cell (o := 0) rfl
    have v1 := hv.cell (o := 1) rfl
    have hRe := Rd.of_own hR.log.en
    by_cases hc : (l.steps.length : Int) < bound ∧ allE l.ended = false
    · obtain ⟨hc1, hc2⟩ := hc
      have hcond : condP bound s := by
        refine ⟨?_, by rw [hA.st]; exact hc1⟩
        rw [hI.al, alive_all ms s.ended (by rw [hI.le]) hnn, hA.en]; exact hc2
      have hmore := inner_more hI bound hcond
      have hA2 := agree_inner sizes ms hmsl.out hnn bound s l hA sizes.length (Nat.le_refl _)
      rw [hmsl.out] at hmore
      rw [hA2.st, hA.st] at hmore
      have hI2 := inv_inner hI bound sizes.length
      obtain ⟨g', rfl⟩ : ∃ g', gk = g' + 1 := ⟨gk - 1, by omega⟩
      have hnext : rrR sizes bound g' (rinnerP sizes bound l sizes.length) = fin := by have := hfin.out; rw [rrR, if_pos ⟨hc1, hc2⟩] at this; exact this
      replace hnext := Lib.hid hnext
      have hgm : (bound - (rinnerP sizes bound l sizes.length).steps.length).toNat < g' := by omega
      have hstop := Lib.hid (rinnerP_stop sizes bound l)
      have hsucc := Lib.hid (rinnerP_succ sizes bound l)
      have hagk := Lib.hid (agree_inner sizes ms hmsl.out hnn bound s l hA)
      have hinvk := Lib.hid (inv_inner hI bound)
      have hall := all_any (.slice sa l.steps.length sc) ea ec l.ended wr hRe (by omega)
      rw [hc2] at hall
      replace hall := Lib.hid hall
      have hW : Below wr.heap.size wr (wr.alloc (.cells #[.slice sa l.steps.length sc, .slice ea l.ended.length ec] 31)) := (Below.refl _ _).alloc (Nat.le_refl _) _
      have hR2 := hR.only hW
      have hB2 := hB.trans (hW.mono hB.size)
      replace hle := Lib.hid hle
      replace hA2 := Lib.hid hA2
      clear hmore hc2 hcond hRe hv hW hR hB hA hI
      go_wp2_with fail
      refine hall.out.mono ?_
      rintro e2 w2 ⟨rfl, rfl⟩
      generalize wr.alloc (.cells #[.slice sa l.steps.length sc, .slice ea l.ended.length ec] 31) = wo at *
      clear v0 v1 hall
      go_wp2_with fail
      go_loopw [6] (fun i wr => ∃ (k : Nat) (sa2 : Option Addr) (sc2 : Nat), k ≤ sizes.length ∧ i = .int .i64 k ∧ RSt wr w.heap.size w1.heap.size sa2 sc2 ea ec (rinnerP sizes bound l k) ∧ Below w.heap.size w wr) (fun i _ => sizes.length - (intOf i).toNat)
      case atStart => exact ⟨0, sa, sc, Nat.zero_le _, rfl, hR2, hB2⟩
      case round =>
        clear hR2 hB2
        obtain ⟨k, sa2, sc2, hk, rfl, hR, hB⟩ := hrel
        have hak := hagk.out k hk
        have hik := hinvk.out k
        have hskx := hstop.out k
        have hsk1 := hsucc.out k
        have hbt := hik.tot
        rw [hak.st] at hbt
        have hlk := hak.le
        rw [hak.en] at hlk
        have hv := hR.var
        clear hik hak
        by_cases hlt : k < sizes.length ∧ ((rinnerP sizes bound l k).steps.length : Int) < bound
        · obtain ⟨hlt, hlb⟩ := hlt
          generalize rinnerP sizes bound l k = t at *
          have v0 := hv.cell (o := 0) rfl
          have v1 := hv.cell (o := 1) rfl
          have hen := hR.log.en
          rcases hen.2 with ⟨_, h0⟩ | ⟨ge, cap', _, hg, _⟩
          · omega
          simp only [Value.slice.injEq, true_and] at hg
          obtain ⟨rfl, rfl⟩ := hg
          have hile : k < t.ended.length := by omega
          have hile2 : (k : Int) < (t.ended.length : Int) := by omega
          have ce := hen.cellAt k (by omega)
          rw [ints_get t.ended .i64 k hile] at ce
          rw [rinner1, if_neg (by omega)] at hsk1
          clear hskx
          by_cases hend : t.ended.getD k 0 < 0
          · rw [if_pos hend] at hsk1
            have hz1 := hz.kept hB
            have hst := rstep_any wr sa2 sc2 (some ⟨ge, 0, none⟩) ec t za zc sizes k hR.log hz1 (fun j hj => by
              have h1 := hz.lt (by intro e; simp at e; subst e; simp at hlt) hj
              exact ⟨fun h => by have := (hR.os _ h).2; omega, fun h => by have := (hR.oe _ h).2; omega⟩) hlt hlk (by omega) (by omega)
            have hse := rstepP_ended sizes t k
            replace hst := Lib.hid hst
            replace hse := Lib.hid hse
            replace hsk1 := Lib.hid hsk1
            replace hlk := Lib.hid hlk
            generalize t.ended.getD k 0 = en at *
            go_wp2_with fail
            refine hst.out.mono ?_
            rintro e w2 ⟨sa', sc', rfl, hL2, hO2, hf2⟩
            obtain ⟨hR2, hv2⟩ := hR.stepped hL2 hO2 hf2 hse.out
            have hB2 := ((hB.trans (hO2.below (B := w.heap.size) hB.size (fun j _ hj => by
              rcases hj with hj | hj
              · have := (hR.os _ hj).2; omega
              · have := (hR.oe _ hj).2; omega))).setCell (p := ⟨w1.heap.size, 0, none⟩) (by simp; omega) (.slice sa' (rstepP sizes t k).steps.length sc')).setCell (p := ⟨w1.heap.size, 1, none⟩) (by simp; omega) (.slice (some ⟨ge, 0, none⟩) (rstepP sizes t k).ended.length ec)
            have v0 := hv2.cell (o := 0) rfl
            have v1 := hv2.cell (o := 1) rfl
            have f0 := hv2.free 0
            have f1 := hv2.free 1
            generalize rstepP sizes t k = l2 at *
            replace hR2 := Lib.hid hR2
            clear hL2 hO2 hf2 hv2 hst ce hR hB hen hv
            go_wp2_with fail
            go_roundw
            case rel => exact ⟨k + 1, sa', sc', by omega, by go_num, by rw [hsk1.out]; exact hR2.out, hB2⟩
            case measure => simp [intOf]; omega
          · rw [if_neg hend] at hsk1
            replace hsk1 := Lib.hid hsk1
            replace hlk := Lib.hid hlk
            have hend2 : 0 ≤ t.ended.getD k 0 := by omega
            generalize t.ended.getD k 0 = en at *
            clear hv hen
            go_wp2_with fail
            go_roundw
            case rel => exact ⟨k + 1, sa2, sc2, by omega, by go_num, by rw [hsk1.out]; exact hR, hB⟩
            case measure => simp [intOf]; omega
        · have e : rinnerP sizes bound l sizes.length = rinnerP sizes bound l k := by
            by_cases h1 : k < sizes.length
            · have := hskx (by omega) (sizes.length - k)
              rwa [show k + (sizes.length - k) = sizes.length from by omega] at this
            · rw [show k = sizes.length from by omega]
          rw [e] at hnext hgm hA2
          clear hskx hsk1 e
          generalize rinnerP sizes bound l k = t at *
          replace hlk := Lib.hid hlk
          have v0 := hv.cell (o := 0) rfl
          clear hv
          by_cases h1 : k < sizes.length
          all_goals
            go_wp2_with fail
            go_roundg g'
            case measure => omega
            case rel => exact ⟨_, t, sa2, sc2, hR, hA2.out, hI2, hB, hnext, hgm⟩
    · have hd : l = fin := by
        have h1 := hfin.out
        cases gk with
        | zero => omega
        | succ g => rwa [rrR, if_neg hc] at h1
      subst hd
      -- the end, in whatever world the log lies as it should
      have fin2 : ∀ wz, RSt wz w.heap.size w1.heap.size sa sc ea ec l → Below w.heap.size w wz → Hid (post (.returned (.agg #[.slice sa l.steps.length sc, .slice ea l.ended.length ec])) ((wz.setCell ⟨w.heap.size, 0, none⟩ (.slice sa l.steps.length sc)).setCell ⟨w.heap.size, 1, none⟩ (.slice ea l.ended.length ec))) := by
        intro wz hR hB
        have hOz : Only (fun j => j = w.heap.size) wz ((wz.setCell ⟨w.heap.size, 0, none⟩ (.slice sa l.steps.length sc)).setCell ⟨w.heap.size, 1, none⟩ (.slice ea l.ended.length ec)) := ((Only.refl (fun j => j = w.heap.size) wz).setCell (a := ⟨w.heap.size, 0, none⟩) (fun _ => rfl) _).setCell (a := ⟨w.heap.size, 1, none⟩) (fun _ => rfl) _
        have F1 := (Rd.of_own hR.log.st).only hOz (fun j hj e => by have := (hR.os j hj).2; omega)
        have F2 := (Rd.of_own hR.log.en).only hOz (fun j hj e => by have := (hR.oe j hj).2; omega)
        have F3 := (hB.setCell (p := ⟨w.heap.size, 0, none⟩) (Nat.le_refl _) (.slice sa l.steps.length sc)).setCell (p := ⟨w.heap.size, 1, none⟩) (Nat.le_refl _) (.slice ea l.ended.length ec)
        show post _ _
        rw [← Hpost.out]
        exact ⟨sa, sc, ea, ec, by rw [hle], F1, by rw [← hle]; exact F2, F3⟩
      replace hle := Lib.hid hle
      by_cases hlt : (l.steps.length : Int) < bound
      · have hat : allE l.ended = true := by
          cases h : allE l.ended with
          | true => rfl
          | false => exact absurd ⟨hlt, h⟩ hc
        have hall := all_any (.slice sa l.steps.length sc) ea ec l.ended wr hRe (by have := hle.out; omega)
        rw [hat] at hall
        replace hall := Lib.hid hall
        have hW : Below wr.heap.size wr (wr.alloc (.cells #[.slice sa l.steps.length sc, .slice ea l.ended.length ec] 31)) := (Below.refl _ _).alloc (Nat.le_refl _) _
        have hR2 := hR.only hW
        have hB2 := hB.trans (hW.mono hB.size)
        clear hat hc hRe hv hW hR hB hA hI
        go_wp2_with fail
        refine hall.out.mono ?_
        rintro e2 w2 ⟨rfl, rfl⟩
        generalize wr.alloc (.cells #[.slice sa l.steps.length sc, .slice ea l.ended.length ec] 31) = wo at *
        clear v0 v1 hall
        have F := fin2 wo hR2 hB2
        have v0 := hR2.var.cell (o := 0) rfl
        have v1 := hR2.var.cell (o := 1) rfl
        have hr := hR2.res
        have r0 := hr.cell (o := 0) rfl
        have r1 := hr.cell (o := 1) rfl
        have g0 := hr.free 0
        have g1 := hr.free 1
        have HZ := (hr.set 0 (.slice sa l.steps.length sc)).set 1 (.slice ea l.ended.length ec)
        have z0 := HZ.cell (o := 0) rfl
        have z1 := HZ.cell (o := 1) rfl
        clear HZ hr hR2 hB2 fin2
        go_wp2_with fail
        refine bodyPost_ret (v := .agg #[.slice sa l.steps.length sc, .slice ea l.ended.length ec]) (by simp [results, Try.results19, go_sem, z0, z1]) rfl ?_
        exact F.out
      · have F := fin2 wr hR hB
        have hr := hR.res
        have r0 := hr.cell (o := 0) rfl
        have r1 := hr.cell (o := 1) rfl
        have g0 := hr.free 0
        have g1 := hr.free 1
        have HZ := (hr.set 0 (.slice sa l.steps.length sc)).set 1 (.slice ea l.ended.length ec)
        have z0 := HZ.cell (o := 0) rfl
        have z1 := HZ.cell (o := 1) rfl
        clear HZ hr hR hB fin2 hc hRe hv hA hI
        go_wp2_with fail
        refine bodyPost_ret (v := .agg #[.slice sa l.steps.length sc, .slice ea l.ended.length ec]) (by simp [results, Try.results19, go_sem, z0, z1]) rfl ?_
        exact F.out
end Go.Proofs.Ytdminbjenbbpaaa
