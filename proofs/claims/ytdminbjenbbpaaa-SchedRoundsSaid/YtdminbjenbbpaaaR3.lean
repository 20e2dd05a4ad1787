/- Contract of the specification's Run. -/
import Derived.Test.YtdminbjenbbpaaaR2
namespace Go.Proofs.Ytdminbjenbbpaaa
open Go.RowKit

def rpickP (sizes : List Int) (l : RL) (p : Int) : RL := if p < 0 then l else if l.ended.getD (p % sizes.length).toNat 0 < 0 then rstepP sizes l (p % sizes.length).toNat else l
def rrunP (sizes : List Int) (ps : List Int) : RL := ps.foldl (rpickP sizes) ⟨[], List.replicate sizes.length (-1)⟩
theorem rrunP_snoc (sizes : List Int) (ps : List Int) (p : Int) : rrunP sizes (ps ++ [p]) = rpickP sizes (rrunP sizes ps) p := by simp [rrunP]
theorem rstepP_ended (sizes : List Int) (l : RL) (m : Nat) : (rstepP sizes l m).ended.length = l.ended.length := by
  simp only [rstepP]; split <;> simp
theorem rpickP_ended (sizes : List Int) (l : RL) (p : Int) : (rpickP sizes l p).ended.length = l.ended.length := by
  unfold rpickP; split
  · rfl
  · split
    · exact rstepP_ended ..
    · rfl
theorem rpickP_steps (sizes : List Int) (l : RL) (p : Int) : (rpickP sizes l p).steps.length ≤ l.steps.length + 1 := by
  unfold rpickP; split
  · omega
  · split
    · simp [rstepP]
    · omega
theorem rrunP_bd (sizes : List Int) : ∀ ps, (rrunP sizes ps).ended.length = sizes.length ∧ (rrunP sizes ps).steps.length ≤ ps.length := by
  intro ps
  have key : ∀ (ps : List Int) (l : RL), (ps.foldl (rpickP sizes) l).ended.length = l.ended.length ∧ (ps.foldl (rpickP sizes) l).steps.length ≤ l.steps.length + ps.length := by
    intro ps
    induction ps with
    | nil => intro l; simp
    | cons p ps ih =>
      intro l
      have h1 := ih (rpickP sizes l p)
      have h2 := rpickP_ended sizes l p
      have h3 := rpickP_steps sizes l p
      simp only [List.foldl_cons, List.length_cons]
      omega
  have := key ps ⟨[], List.replicate sizes.length (-1)⟩
  simpa [rrunP] using this

theorem rrunP_none (sizes : List Int) (h : sizes.length = 0) (ps : List Int) : rrunP sizes ps = ⟨[], []⟩ := by
  have h0 : sizes = [] := List.eq_nil_of_length_eq_zero h
  subst h0
  have key : ∀ (ps : List Int), ps.foldl (rpickP []) ⟨[], []⟩ = ⟨[], []⟩ := by
    intro ps
    induction ps with
    | nil => rfl
    | cons p ps ih =>
      rw [List.foldl_cons]
      rw [show rpickP [] ⟨[], []⟩ p = ⟨[], []⟩ from by unfold rpickP; split <;> simp]
      exact ih
  exact key ps

/-- The state of the specification's run: the log's variable at lb, the result's at rb. -/
structure RSt (w : World) (rb lb : Nat) (sa : Option Addr) (sc : Nat) (ea : Option Addr) (ec : Nat) (l : RL) : Prop where
  res : Has w rb [.slice none 0 0, .slice none 0 0] 31
  var : Has w lb [.slice sa l.steps.length sc, .slice ea l.ended.length ec] 31
  log : RLog w sa sc ea ec l.steps l.ended
  ne : rb ≠ lb
  os : ∀ k, Value.ownBlock (.slice sa l.steps.length sc) = some k → k ≠ lb ∧ rb < k
  oe : ∀ k, Value.ownBlock (.slice ea l.ended.length ec) = some k → k ≠ lb ∧ rb < k

/-- Behind a step, and its result stored. -/
theorem RSt.stepped {w w2 : World} {rb lb : Nat} {sa : Option Addr} {sc : Nat} {ea : Option Addr} {ec : Nat} {l l' : RL} {sa' : Option Addr} {sc' : Nat} (h : RSt w rb lb sa sc ea ec l)
    (hL : RLog w2 sa' sc' ea ec l'.steps l'.ended) (hO : Only (fun k => Value.ownBlock (.slice sa l.steps.length sc) = some k ∨ Value.ownBlock (.slice ea l.ended.length ec) = some k) w w2)
    (hf : ∀ k, Value.ownBlock (.slice sa' l'.steps.length sc') = some k → Value.ownBlock (.slice sa l.steps.length sc) = some k ∨ w.heap.size ≤ k) (he : l'.ended.length = l.ended.length) :
    RSt ((w2.setCell ⟨lb, 0, none⟩ (.slice sa' l'.steps.length sc')).setCell ⟨lb, 1, none⟩ (.slice ea l'.ended.length ec)) rb lb sa' sc' ea ec l' ∧
    Has w2 lb [.slice sa l.steps.length sc, .slice ea l.ended.length ec] 31 := by
  have hv := h.var.only hO (fun hk => by rcases hk with hk | hk; exact (h.os _ hk).1 rfl; exact (h.oe _ hk).1 rfl)
  have hr := h.res.only hO (fun hk => by rcases hk with hk | hk; exact absurd (h.os _ hk).2 (Nat.lt_irrefl _); exact absurd (h.oe _ hk).2 (Nat.lt_irrefl _))
  have os' : ∀ k, Value.ownBlock (.slice sa' l'.steps.length sc') = some k → k ≠ lb ∧ rb < k := fun k hk => by
    rcases hf k hk with h1 | h1
    · exact h.os k h1
    · have := h.var.lt; have := h.res.lt; omega
  have oe' : ∀ k, Value.ownBlock (.slice ea l'.ended.length ec) = some k → k ≠ lb ∧ rb < k := fun k hk => by rw [he] at hk; exact h.oe k hk
  refine ⟨⟨(hr.set_ne (a := ⟨lb, 0, none⟩) (by simpa using h.ne) _).set_ne (a := ⟨lb, 1, none⟩) (by simpa using h.ne) _, ?_, ⟨?_, ?_, hL.ne⟩, h.ne, os', oe'⟩, hv⟩
  · have := (hv.set 0 (.slice sa' l'.steps.length sc')).set 1 (.slice ea l'.ended.length ec)
    simpa using this
  · exact ownsRow_setCell_other (ownsRow_setCell_other hL.st (a := ⟨lb, 0, none⟩) (fun h => (os' _ h).1 rfl) _) (a := ⟨lb, 1, none⟩) (fun h => (os' _ h).1 rfl) _
  · exact ownsRow_setCell_other (ownsRow_setCell_other hL.en (a := ⟨lb, 0, none⟩) (fun h => (oe' _ h).1 rfl) _) (a := ⟨lb, 1, none⟩) (fun h => (oe' _ h).1 rfl) _

/-- What the specification's run leaves. -/
def RRunLeft (w : World) (n : Nat) (l : RL) (e : Ending) (w' : World) : Prop :=
  ∃ sa sc ea ec, e = .returned (.agg #[.slice sa l.steps.length sc, .slice ea n ec]) ∧ Rd w' (.slice sa l.steps.length sc) l.steps.length (l.steps.map (.int .i64)) ∧ Rd w' (.slice ea n ec) n (l.ended.map (.int .i64)) ∧ Below w.heap.size w w'

set_option maxHeartbeats 2000000 in
theorem rrun_any (w : World) (za : Option Addr) (zc : Nat) (sizes : List Int) (pa : Option Addr) (pc : Nat) (ps : List Int) (hz : Rd w (.slice za sizes.length zc) sizes.length (sizes.map (.int .i64))) (hp : Rd w (.slice pa ps.length pc) ps.length (ps.map (.int .i64)))
    (hn : sizes.length < 1099511627776) (hpl : ps.length < 1099511627775) (hpi : ∀ p ∈ ps, -9223372036854775808 ≤ p ∧ p ≤ 9223372036854775807) :
    Calls Try.prog 15 #[.slice za sizes.length zc, .slice pa ps.length pc] w (RRunLeft w sizes.length (rrunP sizes ps)) := by
  generalize hpost : RRunLeft w sizes.length (rrunP sizes ps) = post
  have Hpost := Lib.hid hpost
  clear hpost
  have A0 := Has.new w [.slice none 0 0, .slice none 0 0] 31
  have hB0 : Below w.heap.size w (w.alloc (.cells #[.slice none 0 0, .slice none 0 0] 31)) := (Below.refl _ _).alloc (Nat.le_refl _) _
  go_enter Try.func15, Try.ntmps15
  go_wp2_with (go_at_call 35; refine (begin_any _ sizes.length _ ⟨_, _, rfl⟩ hn).mono ?_)
  rintro e w1 ⟨ea, ec, rfl, hown, hB1, hob⟩
  have hsz1 := hB1.size
  simp only [World.size_alloc] at hsz1 hob
  have A1 := (A0.only (Only.of_below hB1) (by simp)).alloc (.cells #[.slice none 0 0, .slice ea sizes.length ec] 31)
  have A2 := Has.new w1 [.slice none 0 0, .slice ea sizes.length ec] 31
  have hB2 := (hB0.trans (hB1.mono (by simp))).alloc (by omega) (.cells #[.slice none 0 0, .slice ea sizes.length ec] 31)
  have hoe := hown.alloc (.cells #[.slice none 0 0, .slice ea sizes.length ec] 31)
  have hel : ∀ k, Value.ownBlock (.slice ea sizes.length ec) = some k → k ≠ w1.heap.size ∧ w.heap.size < k := fun k hk => by have := hob k hk; have := ownsRow_lt hown hk; omega
  have hne : w.heap.size ≠ w1.heap.size := by omega
  have HI : RSt (w1.alloc (.cells #[.slice none 0 0, .slice ea sizes.length ec] 31)) w.heap.size w1.heap.size none 0 ea ec ⟨[], List.replicate sizes.length (-1)⟩ :=
    ⟨A1, by simpa using A2, ⟨World.ownsRow_nil _ _ _ _, by simpa using hoe, by simp [Value.ownBlock]⟩, hne, by simp [Value.ownBlock], by simpa using hel⟩
  clear A0 A1 A2 hoe hown hB0 hB1 hob
  go_wp2_with fail
  go_loopw [6] (fun i wr => ∃ (k : Nat) (sa : Option Addr) (sc : Nat), k ≤ ps.length ∧ i = .int .i64 k ∧ RSt wr w.heap.size w1.heap.size sa sc ea ec (rrunP sizes (ps.take k)) ∧ Below w.heap.size w wr) (fun i _ => ps.length - (intOf i).toNat)
  case atStart => exact ⟨0, none, 0, Nat.zero_le _, rfl, HI, hB2⟩
  case round =>
    clear HI hB2
    obtain ⟨k, sa, sc, hk, rfl, hR, hB⟩ := hrel
    obtain ⟨hle, hls⟩ := rrunP_bd sizes (ps.take k)
    have htl : (ps.take k).length ≤ k := List.length_take_le _ _
    by_cases hlt : k < ps.length ∧ 0 < sizes.length
    · obtain ⟨hlt, hn0⟩ := hlt
      have hz1 := hz.kept hB
      have hp1 := hp.kept hB
      obtain ⟨pb, po, pc', hpv, hpc⟩ := hp1.cells (by omega)
      simp only [Value.slice.injEq, true_and] at hpv
      obtain ⟨rfl, rfl⟩ := hpv
      have c := hpc k _ (ints_get ps .i64 k hlt)
      have htk := take_getD ps k 0 hlt
      have hnext : rrunP sizes (ps.take (k+1)) = rpickP sizes (rrunP sizes (ps.take k)) (ps.getD k 0) := by rw [htk, rrunP_snoc]
      obtain ⟨hp1, hp2⟩ := hpi (ps.getD k 0) (by rw [List.getD, List.getElem?_eq_getElem hlt]; exact List.getElem_mem _)
      generalize ps.getD k 0 = p at *
      generalize rrunP sizes (ps.take k) = l at *
      clear hpc htk
      by_cases hneg : p < 0
      · have hnx : rrunP sizes (ps.take (k+1)) = l := by rw [hnext, rpickP, if_pos hneg]
        replace hnx := Lib.hid hnx
        clear hnext hle
        go_wp2_with fail
        go_roundw
        case rel => exact ⟨k + 1, sa, sc, by omega, by go_num, by rw [hnx.out]; exact hR, hB⟩
        case measure => simp [intOf]; omega
      · have hmp : 0 ≤ p % (sizes.length : Int) := Int.emod_nonneg _ (by omega)
        have hml : p % (sizes.length : Int) < sizes.length := Int.emod_lt_of_pos _ (by omega)
        rw [rpickP, if_neg hneg] at hnext
        obtain ⟨i, hi⟩ := Int.eq_ofNat_of_zero_le hmp
        rw [hi, Int.toNat_natCast] at hnext
        have hil : i < sizes.length := by omega
        have hile : i < l.ended.length := by omega
        have hv := hR.var
        have hen := hR.log.en
        rcases hen.2 with ⟨_, h0⟩ | ⟨ge, cap', _, hg, _⟩
        · omega
        simp only [Value.slice.injEq, true_and] at hg
        obtain ⟨rfl, rfl⟩ := hg
        have ce := hen.cellAt i (by omega)
        rw [ints_get l.ended .i64 i hile] at ce
        have v0 := hv.cell (o := 0) rfl
        have v1 := hv.cell (o := 1) rfl
        have hile2 : (i : Int) < (l.ended.length : Int) := by omega
        by_cases hend : l.ended.getD i 0 < 0
        · rw [if_pos hend] at hnext
          have hst := rstep_any wr sa sc (some ⟨ge, 0, none⟩) ec l za zc sizes i hR.log hz1 (fun j hj => by
            have h1 := hz.lt (by intro e; simp at e; subst e; simp at hil) hj
            exact ⟨fun h => by have := (hR.os _ h).2; omega, fun h => by have := (hR.oe _ h).2; omega⟩) hil hle hn (by omega)
          have hse := rstepP_ended sizes l i
          replace hst := Lib.hid hst
          replace hse := Lib.hid hse
          replace hnext := Lib.hid hnext
          replace hle := Lib.hid hle
          clear hml hmp
          generalize l.ended.getD i 0 = en at *
          go_wp2_with fail
          refine hst.out.mono ?_
          rintro e w2 ⟨sa', sc', rfl, hL2, hO2, hf2⟩
          obtain ⟨hR2, hv2⟩ := hR.stepped hL2 hO2 hf2 hse.out
          have hB2 := ((hB.trans (hO2.below (B := w.heap.size) hB.size (fun j _ hj => by
            rcases hj with hj | hj
            · have := (hR.os _ hj).2; omega
            · have := (hR.oe _ hj).2; omega))).setCell (p := ⟨w1.heap.size, 0, none⟩) (by simp; omega) (.slice sa' (rstepP sizes l i).steps.length sc')).setCell (p := ⟨w1.heap.size, 1, none⟩) (by simp; omega) (.slice (some ⟨ge, 0, none⟩) (rstepP sizes l i).ended.length ec)
          have v0 := hv2.cell (o := 0) rfl
          have v1 := hv2.cell (o := 1) rfl
          have f0 := hv2.free 0
          have f1 := hv2.free 1
          generalize rstepP sizes l i = l2 at *
          replace hR2 := Lib.hid hR2
          clear hL2 hO2 hf2 hv2 hst ce hR hB hen
          go_wp2_with fail
          go_roundw
          case rel => exact ⟨k + 1, sa', sc', by omega, by go_num, by rw [hnext.out]; exact hR2.out, hB2⟩
          case measure => simp [intOf]; omega
        · rw [if_neg hend] at hnext
          replace hnext := Lib.hid hnext
          replace hle := Lib.hid hle
          clear hml hmp
          have hend2 : 0 ≤ l.ended.getD i 0 := by omega
          generalize l.ended.getD i 0 = en at *
          go_wp2_with fail
          go_roundw
          case rel => exact ⟨k + 1, sa, sc, by omega, by go_num, by rw [hnext.out]; exact hR, hB⟩
          case measure => simp [intOf]; omega
    · have hfin : rrunP sizes (ps.take k) = rrunP sizes ps := by
        by_cases h0 : sizes.length = 0
        · rw [rrunP_none sizes h0, rrunP_none sizes h0]
        · rw [List.take_of_length_le (by omega)]
      have hv := hR.var
      rw [hfin] at hR hle hls hv
      clear hfin
      generalize rrunP sizes ps = l at *
      replace hle := Lib.hid hle
      have v0 := hv.cell (o := 0) rfl
      have v1 := hv.cell (o := 1) rfl
      have hr := hR.res
      have r0 := hr.cell (o := 0) rfl
      have r1 := hr.cell (o := 1) rfl
      have g0 := hr.free 0
      have g1 := hr.free 1
      have HZ := (hr.set 0 (.slice sa l.steps.length sc)).set 1 (.slice ea l.ended.length ec)
      have z0 := HZ.cell (o := 0) rfl
      have z1 := HZ.cell (o := 1) rfl
      have hOz : Only (fun j => j = w.heap.size) wr ((wr.setCell ⟨w.heap.size, 0, none⟩ (.slice sa l.steps.length sc)).setCell ⟨w.heap.size, 1, none⟩ (.slice ea l.ended.length ec)) := ((Only.refl (fun j => j = w.heap.size) wr).setCell (a := ⟨w.heap.size, 0, none⟩) (fun _ => rfl) _).setCell (a := ⟨w.heap.size, 1, none⟩) (fun _ => rfl) _
      have F1 := Lib.hid ((Rd.of_own hR.log.st).only hOz (fun j hj e => by have := (hR.os j hj).2; omega))
      have F2 := Lib.hid ((Rd.of_own hR.log.en).only hOz (fun j hj e => by have := (hR.oe j hj).2; omega))
      have F3 := Lib.hid ((hB.setCell (p := ⟨w.heap.size, 0, none⟩) (Nat.le_refl _) (.slice sa l.steps.length sc)).setCell (p := ⟨w.heap.size, 1, none⟩) (Nat.le_refl _) (.slice ea l.ended.length ec))
      clear HZ hOz hr hR hB hv
      by_cases h1 : k < ps.length
      all_goals
        go_wp2_with fail
        refine bodyPost_ret (v := .agg #[.slice sa l.steps.length sc, .slice ea l.ended.length ec]) (by simp [results, Try.results15, go_sem, z0, z1]) rfl ?_
        rw [← Hpost.out]
        exact ⟨sa, sc, ea, ec, by rw [hle.out], F1.out, by rw [← hle.out]; exact F2.out, F3.out⟩
end Go.Proofs.Ytdminbjenbbpaaa
