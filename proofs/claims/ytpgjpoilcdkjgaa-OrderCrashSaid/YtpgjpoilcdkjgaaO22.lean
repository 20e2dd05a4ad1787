/- told, events. -/
import Derived.Test.YtpgjpoilcdkjgaaO21
import Derived.Test.YtpgjpoilcdkjgaaO20
namespace Go.Proofs.Ytpgjpoilcdkjgaa
open Go.RowKit

theorem info65 : (Try.prog.info? 65).map (fun i => (i.zero, i.size, i.bytes)) = some (some (.agg #[.int .u8 0, .int .i64 0, .int .u64 0, .int .u64 0, .int .u64 0, .int .i64 0, .int .i64 0, .slice none 0 0]), 8, 80) := by kernel_rfl
theorem info67 : (Try.prog.info? 67).map (fun i => (i.zero, i.size, i.bytes)) = some (some (.agg #[.int .i64 0, .int .i64 0, .int .u64 0, .int .u64 0, .int .u64 0, .int .i64 0, .int .i64 0, .int .i64 0]), 8, 64) := by kernel_rfl

set_option maxHeartbeats 1000000 in
theorem told_any (k : Nat) (hk : k < 256) (t off val old line n : Int) (ca : Option Addr) (cl cc : Nat) (w : World) :
    Calls Try.prog 31 #[.agg #[.int .u8 (k : Int), .int .i64 t, .int .u64 off, .int .u64 val, .int .u64 old, .int .i64 line, .int .i64 n, .slice ca cl cc]] w fun e w' =>
      e = .returned (.agg #[.int .i64 (k : Int), .int .i64 t, .int .u64 off, .int .u64 val, .int .u64 old, .int .i64 line, .int .i64 n, .int .i64 (cl : Int)]) ∧ Below w.heap.size w w' := by
  have hE := Has.new w [.int .u8 (k : Int), .int .i64 t, .int .u64 off, .int .u64 val, .int .u64 old, .int .i64 line, .int .i64 n, .slice ca cl cc] 65
  have e0 := hE.cell (o := 0) rfl
  have e1 := hE.cell (o := 1) rfl
  have e2 := hE.cell (o := 2) rfl
  have e3 := hE.cell (o := 3) rfl
  have e4 := hE.cell (o := 4) rfl
  have e5 := hE.cell (o := 5) rfl
  have e6 := hE.cell (o := 6) rfl
  have e7 := hE.cell (o := 7) rfl
  go_enter Try.func31, Try.ntmps31
  go_wp2_with fail
  refine bodyPost_ret (v := .agg #[.int .i64 (k : Int), .int .i64 t, .int .u64 off, .int .u64 val, .int .u64 old, .int .i64 line, .int .i64 n, .int .i64 (cl : Int)]) (by simp [results, Try.results31, go_sem]) rfl ?_
  exact ⟨rfl, ((Below.refl _ _).alloc (Nat.le_refl _) _).alloc (by simp) _⟩

def acCells (l : List Ac) : List Value := l.flatMap Ac.cells
theorem acCells_get : ∀ (es : List Ac) (i : Nat) (e : Ac), es[i]? = some e → ∀ j v, e.cells[j]? = some v → (acCells es)[i * 6 + j]? = some v
  | q :: es, 0, e, h, j, v, hj => by
    simp at h
    subst h
    have hl : j < q.cells.length := by
      rcases Nat.lt_or_ge j q.cells.length with h1 | h1
      · exact h1
      · rw [List.getElem?_eq_none h1] at hj; cases hj
    simp only [acCells, List.flatMap_cons, Nat.zero_mul, Nat.zero_add]
    rw [List.getElem?_append_left hl]; exact hj
  | q :: es, i + 1, e, h, j, v, hj => by
    have := acCells_get es i e (by simpa using h) j v hj
    have e1 : (i + 1) * 6 + j = q.cells.length + (i * 6 + j) := by show _ = 6 + _; omega
    simp only [acCells, List.flatMap_cons]
    rw [e1, List.getElem?_append_right (by omega), Nat.add_sub_cancel_left]
    exact this
  | [], _, _, h, _, _, _ => by simp at h
theorem evCells_snoc (l : List Ev) (e : Ev) : evCells (l ++ [e]) = evCells l ++ e.cells := by simp [evCells]
theorem reCells_snoc (l : List Ev) (e : Ev) : reCells (l ++ [e]) = reCells l ++ e.rcells := by simp [reCells]
theorem evCells_length (l : List Ev) : (evCells l).length = l.length * 8 := by
  induction l with
  | nil => rfl
  | cons s l ih => simp only [evCells, List.flatMap_cons, List.length_append, List.length_cons] at *; rw [ih]; show 8 + _ = _; omega
theorem Ac.ev_good (a : Ac) (h : a.Fit) : a.ev.Good := by
  have h1 := h.k
  have h2 := h.t
  have h3 := offP_lt a.w h.w
  have h4 := h.v
  unfold Ac.ev
  split
  · exact ⟨⟨by simp, by simp; omega, by simp; omega, by simp; omega, by simp, by simp, by simp, by simp⟩, by simp, none, 0, 0, rfl, by simp [validP, kindB, plB]; omega⟩
  split
  · exact ⟨⟨by simp, by simp; omega, by simp; omega, by simp; omega, by simp; omega, by simp, by simp, by simp⟩, by simp, none, 0, 0, rfl, by simp [validP, kindB, plB]; omega⟩
  split
  · exact ⟨⟨by simp, by simp; omega, by simp; omega, by simp, by simp, by simp, by simp, by simp⟩, by simp, none, 0, 0, rfl, by simp [validP, kindB, plB]; omega⟩
  split
  · exact ⟨⟨by simp, by simp; omega, by simp, by simp, by simp, by simp, by simp, by simp⟩, by simp, none, 0, 0, rfl, by simp [validP, kindB, plB]; omega⟩
  · exact ⟨⟨by simp, by simp, by simp, by simp, by simp, by simp; omega, by simp; omega, by simp; omega⟩, by simp, none, 0, 0, rfl, by simp [validP, kindB, wdB]; omega⟩
theorem Ac.ev_ch (a : Ac) : a.ev.ch = .slice none 0 0 := by
  unfold Ac.ev
  (repeat' split) <;> rfl

/-- The events of acts. -/
def evs (l : List Ac) : List Ev := l.map Ac.ev
/-- What the loop of events holds. -/
structure EvR (w : World) (es : List Ev) (oa : Option Addr) (oc : Nat) (sa : Option Addr) (sc : Nat) (wr : World) : Prop where
  o : wr.ownsRow 0 65 8 (.slice oa es.length oc) es.length (evCells es)
  s : wr.ownsRow 0 67 8 (.slice sa es.length sc) es.length (reCells es)
  ob : ∀ k, Value.ownBlock (.slice oa es.length oc) = some k → w.heap.size ≤ k
  sb : ∀ k, Value.ownBlock (.slice sa es.length sc) = some k → w.heap.size ≤ k
  os : ∀ k, Value.ownBlock (.slice oa es.length oc) = some k → ¬ Value.ownBlock (.slice sa es.length sc) = some k
  b : Below w.heap.size w wr
theorem EvR.below {w wr wr2 : World} {es : List Ev} {oa sa : Option Addr} {oc sc : Nat} (h : EvR w es oa oc sa sc wr) (hb : Below wr.heap.size wr wr2) : EvR w es oa oc sa sc wr2 :=
  ⟨ownsRow_only h.o (Only.of_below hb) (fun k hk e => by have := ownsRow_lt h.o hk; omega), ownsRow_only h.s (Only.of_below hb) (fun k hk e => by have := ownsRow_lt h.s hk; omega), h.ob, h.sb, h.os, h.b.trans (hb.mono h.b.size)⟩
/-- One more event, in its slice; then in the other. -/
theorem EvR.app {w w1 w2 w3 w4 : World} {es : List Ev} {e : Ev} {oa sa oa' sa' : Option Addr} {oc sc oc' sc' : Nat} (h : EvR w es oa oc sa sc w1)
    (own2 : w2.ownsRow 0 65 8 (.slice oa' (es.length + 1) oc') (es.length + 1) (evCells es ++ e.cells)) (only2 : Only (fun k => Value.ownBlock (.slice oa es.length oc) = some k) w1 w2)
    (fresh2 : ∀ k, Value.ownBlock (.slice oa' (es.length + 1) oc') = some k → Value.ownBlock (.slice oa es.length oc) = some k ∨ w1.heap.size ≤ k)
    (h23 : Below w2.heap.size w2 w3)
    (own4 : w4.ownsRow 0 67 8 (.slice sa' (es.length + 1) sc') (es.length + 1) (reCells es ++ e.rcells)) (only4 : Only (fun k => Value.ownBlock (.slice sa es.length sc) = some k) w3 w4)
    (fresh4 : ∀ k, Value.ownBlock (.slice sa' (es.length + 1) sc') = some k → Value.ownBlock (.slice sa es.length sc) = some k ∨ w3.heap.size ≤ k) : EvR w (es ++ [e]) oa' oc' sa' sc' w4 := by
  have hs1 := h.b.size
  have hs2 := only2.size
  have hs3 := h23.size
  have own3 := ownsRow_only own2 (Only.of_below h23) (fun k hk e => by have := ownsRow_lt own2 hk; omega)
  have hd : ∀ k, Value.ownBlock (.slice oa' (es.length + 1) oc') = some k → ¬ Value.ownBlock (.slice sa es.length sc) = some k := by
    intro k hk hs
    rcases fresh2 k hk with h1 | h1
    · exact h.os k h1 hs
    · have := ownsRow_lt h.s hs; omega
  refine ⟨?_, ?_, ?_, ?_, ?_, ?_⟩
  · simp only [List.length_append, List.length_singleton, evCells_snoc]; exact ownsRow_only own3 only4 (fun k hk e => hd k hk e)
  · simp only [List.length_append, List.length_singleton, reCells_snoc]; exact own4
  · intro k hk
    simp only [List.length_append, List.length_singleton] at hk
    rcases fresh2 k hk with h1 | h1
    · exact h.ob k h1
    · omega
  · intro k hk
    simp only [List.length_append, List.length_singleton] at hk
    rcases fresh4 k hk with h1 | h1
    · exact h.sb k h1
    · omega
  · intro k hk hs
    simp only [List.length_append, List.length_singleton] at hk hs
    rcases fresh4 k hs with h1 | h1
    · exact hd k hk h1
    · have := ownsRow_lt own3 hk; omega
  · exact ((h.b.trans (only2.below (B := w.heap.size) hs1 (fun k _ e => h.ob k e))).trans (h23.mono (by omega))).trans (only4.below (B := w.heap.size) (by omega) (fun k _ e => h.sb k e))

def EvsPost (w : World) (es : List Ev) (x : Ending) (w' : World) : Prop :=
  ∃ oa oc sa sc, x = .returned (.tuple #[.slice oa es.length oc, .slice sa (refRunP 4 es).out.length sc]) ∧ Rd w' (.slice oa es.length oc) es.length (evCells es) ∧
    Rd w' (.slice sa (refRunP 4 es).out.length sc) (refRunP 4 es).out.length (sCells (refRunP 4 es).out) ∧ Below w.heap.size w w'
theorem EvR.done {w wr : World} {es : List Ev} {oa sa : Option Addr} {oc sc : Nat} (h : EvR w es oa oc sa sc wr) (hl : es.length ≤ 20000) (hg : ∀ e ∈ es, e.Good) :
    Calls Try.prog 40 #[.int .i64 4, .slice sa es.length sc] wr fun e w' => ∃ ra rc, e = .returned (.slice ra (refRunP 4 es).out.length rc) ∧ EvsPost w es (.returned (.tuple #[.slice oa es.length oc, .slice ra (refRunP 4 es).out.length rc])) w' := by
  refine (refrun_any 4 es sa sc wr (by omega) (by omega) hl (Rd.of_own h.s) (fun e he => (hg e he).fit) (fun e he => (hg e he).z)).mono ?_
  rintro e w' ⟨ra, rc, rfl, hrd, hb⟩
  exact ⟨ra, rc, rfl, oa, oc, ra, rc, rfl, (Rd.of_own h.o).kept hb, hrd, h.b.trans (hb.mono h.b.size)⟩

set_option maxHeartbeats 8000000 in
set_option maxRecDepth 100000 in
theorem events_any (acs : List Ac) (hf : ∀ a ∈ acs, a.Fit) (aa : Option Addr) (cap m : Nat) (hm : m ≤ 40) (w : World) (hr : Rd w (.slice aa acs.length cap) acs.length (acCells acs)) (hll : acs.length ≤ 9223372036854775807) :
    Calls Try.prog 13 #[.slice aa acs.length cap, .int .i64 m] w (EvsPost w (evs (acs.take m))) := by
  generalize hpost : EvsPost w (evs (acs.take m)) = post
  replace hpost := Lib.hid hpost
  have hi0 : EvR w (evs (acs.take 0)) none 0 none 0 w := by
    refine ⟨World.ownsRow_nil _ _ _ _, World.ownsRow_nil _ _ _ _, ?_, ?_, ?_, Below.refl _ _⟩
    · intro k hk; cases hk
    · intro k hk; cases hk
    · intro k hk; cases hk
  have hlen : ∀ k, k ≤ acs.length → (evs (acs.take k)).length = k := by intro k hk; simp [evs]; omega
  have hgood : ∀ k, ∀ e ∈ evs (acs.take k), e.Good := by
    intro k e he
    simp only [evs, List.mem_map] at he
    obtain ⟨a, ha, rfl⟩ := he
    exact a.ev_good (hf a (List.mem_of_mem_take ha))
  replace hlen := Lib.hid hlen
  go_enter Try.func13, Try.ntmps13
  go_wp2_with fail
  go_loopw [6, 7, 12] (fun o s i wr => ∃ (k : Nat) (oa : Option Addr) (oc : Nat) (sa : Option Addr) (sc : Nat), k ≤ acs.length ∧ k ≤ m ∧ i = .int .i64 k ∧ o = .slice oa k oc ∧ s = .slice sa k sc ∧ EvR w (evs (acs.take k)) oa oc sa sc wr) (fun _ _ i _ => acs.length - (intOf i).toNat)
  case atStart => exact ⟨0, none, 0, none, 0, by omega, by omega, rfl, rfl, rfl, hi0⟩
  case round =>
    clear hi0
    obtain ⟨k, oa, oc, sa, sc, hk, hkm, rfl, rfl, rfl, hR⟩ := hrel
    have hlk := hlen.out k hk
    by_cases hlt : k < acs.length
    · have hlI : (k : Int) < acs.length := by omega
      by_cases hkm2 : k = m
      · have hee : evs (acs.take k) = evs (acs.take m) := by rw [hkm2]
        have hmI : ((k : Int) == (m : Int)) = true := by rw [beq_iff_eq]; omega
        obtain ⟨bl, ol, cl, ea, fa⟩ := (hr.kept hR.b).cells (by omega)
        simp only [Value.slice.injEq, true_and] at ea
        obtain ⟨rfl, hcap⟩ := ea
        replace hcap := Lib.hid hcap
        have hat := get_of_lt (⟨0, 0, 0, 0, 0, 0⟩ : Ac) hlt
        generalize acs.getD k ⟨0, 0, 0, 0, 0, 0⟩ = a at *
        have c0 : wr.cell? ⟨bl, ol + k * 6, none⟩ = _ := fa _ _ (acCells_get acs k a hat 0 _ rfl)
        have c1 : wr.cell? ⟨bl, ol + k * 6 + 1, none⟩ = _ := fa _ _ (acCells_get acs k a hat 1 _ rfl)
        have c2 : wr.cell? ⟨bl, ol + k * 6 + 2, none⟩ = _ := fa _ _ (acCells_get acs k a hat 2 _ rfl)
        have c3 : wr.cell? ⟨bl, ol + k * 6 + 3, none⟩ = _ := fa _ _ (acCells_get acs k a hat 3 _ rfl)
        have c4 : wr.cell? ⟨bl, ol + k * 6 + 4, none⟩ = _ := fa _ _ (acCells_get acs k a hat 4 _ rfl)
        have c5 : wr.cell? ⟨bl, ol + k * 6 + 5, none⟩ = _ := fa _ _ (acCells_get acs k a hat 5 _ rfl)
        replace hat := Lib.hid hat
        have hlm : (evs (acs.take m)).length = k := by rw [← hee]; exact hlk
        replace hee := Lib.hid hee
        have hRA := hR.below ((Below.refl wr.heap.size wr).alloc (Nat.le_refl _) (.cells #[.int .u8 (a.k : Int), .int .u8 (a.t : Int), .int .u8 (a.w : Int), .int .u8 (a.v : Int), .int .u8 (a.o : Int), .int .u8 (a.n : Int)] 85))
        clear hkm2 fa hR
        have hd := hRA.done (by omega) (hgood k)
        rw [hee.out, hlm] at hd
        replace hlm := Lib.hid hlm
        replace hd := Lib.hid hd
        clear hRA
        go_wp2_with fail
        refine hd.out.mono ?_
        rintro e w' ⟨ra, rc, rfl, hP⟩
        rw [hpost.out] at hP
        replace hP := Lib.hid hP
        clear hd
        go_wp2_with fail
        first | exact hP.out | (go_ret2; exact hP.out)
      · have hmI : ((k : Int) == (m : Int)) = false := by rw [beq_eq_false_iff_ne]; omega
        have hmN : ¬ (k : Int) = (m : Int) := by omega
        obtain ⟨bl, ol, cl, ea, fa⟩ := (hr.kept hR.b).cells (by omega)
        simp only [Value.slice.injEq, true_and] at ea
        obtain ⟨rfl, hcap⟩ := ea
        replace hcap := Lib.hid hcap
        have hat := get_of_lt (⟨0, 0, 0, 0, 0, 0⟩ : Ac) hlt
        have hfa := hf _ (List.mem_of_getElem? hat)
        have htk : evs (acs.take (k + 1)) = evs (acs.take k) ++ [(acs.getD k ⟨0, 0, 0, 0, 0, 0⟩).ev] := by
          unfold evs; rw [take_getD acs k ⟨0, 0, 0, 0, 0, 0⟩ hlt, List.map_append]; rfl
        generalize acs.getD k ⟨0, 0, 0, 0, 0, 0⟩ = a at *
        have c0 : wr.cell? ⟨bl, ol + k * 6, none⟩ = _ := fa _ _ (acCells_get acs k a hat 0 _ rfl)
        have c1 : wr.cell? ⟨bl, ol + k * 6 + 1, none⟩ = _ := fa _ _ (acCells_get acs k a hat 1 _ rfl)
        have c2 : wr.cell? ⟨bl, ol + k * 6 + 2, none⟩ = _ := fa _ _ (acCells_get acs k a hat 2 _ rfl)
        have c3 : wr.cell? ⟨bl, ol + k * 6 + 3, none⟩ = _ := fa _ _ (acCells_get acs k a hat 3 _ rfl)
        have c4 : wr.cell? ⟨bl, ol + k * 6 + 4, none⟩ = _ := fa _ _ (acCells_get acs k a hat 4 _ rfl)
        have c5 : wr.cell? ⟨bl, ol + k * 6 + 5, none⟩ = _ := fa _ _ (acCells_get acs k a hat 5 _ rfl)
        have hev := event_any a hfa
        have hch := a.ev_ch
        have hek : a.ev.k < 256 := by have := (a.ev_good hfa).fit.k; omega
        unfold EventPost at hev
        rw [hch] at hev
        have hec : a.ev.cells = [.int .u8 (a.ev.k : Int), .int .i64 (a.ev.t : Int), .int .u64 (a.ev.off : Int), .int .u64 (a.ev.val : Int), .int .u64 (a.ev.old : Int), .int .i64 (a.ev.line : Int), .int .i64 a.ev.n, .slice none 0 0] := by unfold Ev.cells; rw [hch]
        have hrc : a.ev.rcells = [.int .i64 (a.ev.k : Int), .int .i64 (a.ev.t : Int), .int .u64 (a.ev.off : Int), .int .u64 (a.ev.val : Int), .int .u64 (a.ev.old : Int), .int .i64 (a.ev.line : Int), .int .i64 a.ev.n, .int .i64 0] := rfl
        generalize a.ev = e at *
        have htd := fun w => told_any e.k hek e.t e.off e.val e.old e.line e.n none 0 0 w
        replace hev := Lib.hid hev
        replace htd := Lib.hid htd
        replace htk := Lib.hid htk
        replace hat := Lib.hid hat
        replace hch := Lib.hid hch
        replace hec := Lib.hid hec
        replace hrc := Lib.hid hrc
        have hRA := hR.below ((Below.refl wr.heap.size wr).alloc (Nat.le_refl _) (.cells #[.int .u8 (a.k : Int), .int .u8 (a.t : Int), .int .u8 (a.w : Int), .int .u8 (a.v : Int), .int .u8 (a.o : Int), .int .u8 (a.n : Int)] 85))
        have hEA := Has.new wr [.int .u8 (a.k : Int), .int .u8 (a.t : Int), .int .u8 (a.w : Int), .int .u8 (a.v : Int), .int .u8 (a.o : Int), .int .u8 (a.n : Int)] 85
        have hob := fun j (hj : Value.ownBlock (.slice oa k oc) = some j) => ownsRow_lt hR.o (by rw [hlk]; exact hj)
        replace hob := Lib.hid hob
        clear fa hR
        replace hRA := Lib.hid hRA
        go_wp2_with fail
        refine (hev.out _).mono ?_
        rintro e' w1 ⟨rfl, hB1⟩
        have hR1 := hRA.out.below hB1
        have hEA1 := hEA.only (Only.of_below hB1) (by simp)
        have hR1a := hR1.below ((Below.refl w1.heap.size w1).alloc (Nat.le_refl _) (.cells #[.int .u8 (e.k : Int), .int .i64 (e.t : Int), .int .u64 (e.off : Int), .int .u64 (e.val : Int), .int .u64 (e.old : Int), .int .i64 (e.line : Int), .int .i64 e.n, .slice none 0 0] 65))
        have hlw : wr.heap.size < w1.heap.size := by have := hB1.size; simp at this; omega
        have hN1 := Has.new w1 [.int .u8 (e.k : Int), .int .i64 (e.t : Int), .int .u64 (e.off : Int), .int .u64 (e.val : Int), .int .u64 (e.old : Int), .int .i64 (e.line : Int), .int .i64 e.n, .slice none 0 0] 65
        have ho1 := hR1a.o
        rw [hlk] at ho1
        have hby1 : (k + 1) * 80 ≤ 140737488355328 := by omega
        have hby2 : (k + 1) * 64 ≤ 140737488355328 := by omega
        replace hR1a := Lib.hid hR1a
        clear hB1 hR1 hEA hRA c0 c1 c2 c3 c4 c5
        go_wp2_with (at_builtin; refine wpList_app rfl (.tmp 20) (.tmp 23) 24 rfl 65 (.agg #[.int .u8 0, .int .i64 0, .int .u64 0, .int .u64 0, .int .u64 0, .int .i64 0, .int .i64 0, .slice none 0 0]) 8 80 Try.underlying24 info65 rfl (by decide) (by decide) oa k oc (evCells (evs (acs.take k))) (by exact ho1) rfl _ 1 1 [.int .u8 (e.k : Int), .int .i64 (e.t : Int), .int .u64 (e.off : Int), .int .u64 (e.val : Int), .int .u64 (e.old : Int), .int .i64 (e.line : Int), .int .i64 e.n, .slice none 0 0] rfl rfl (by exact news_at hN1) (by simp [Value.oneCell']) (by exact hby1) ?_)
        intro oa' oc' w2 own2 only2 fresh2
        have hEA2 := (hEA1.alloc (.cells #[.int .u8 (e.k : Int), .int .i64 (e.t : Int), .int .u64 (e.off : Int), .int .u64 (e.val : Int), .int .u64 (e.old : Int), .int .i64 (e.line : Int), .int .i64 e.n, .slice none 0 0] 65)).only only2 (fun e => by have := hob.out _ e; omega)
        have x0 := hEA2.cell (o := 0) rfl
        have x1 := hEA2.cell (o := 1) rfl
        have x2 := hEA2.cell (o := 2) rfl
        have x3 := hEA2.cell (o := 3) rfl
        have x4 := hEA2.cell (o := 4) rfl
        have x5 := hEA2.cell (o := 5) rfl
        have hlw2 := only2.size
        simp only [World.size_alloc] at hlw2
        replace own2 := Lib.hid own2
        replace fresh2 := Lib.hid fresh2
        replace only2 := Lib.hid only2
        clear hEA1 hEA2 hN1 ho1
        go_wp2_with fail
        refine (hev.out _).mono ?_
        rintro e' w3 ⟨rfl, hB3⟩
        clear x0 x1 x2 x3 x4 x5 hev
        go_wp2_with fail
        refine (htd.out _).mono ?_
        rintro e' w4 ⟨rfl, hB4⟩
        have hB24 := hB3.trans (hB4.mono hB3.size)
        have hB25 := hB24.alloc hB24.size (.cells #[.int .i64 (e.k : Int), .int .i64 (e.t : Int), .int .u64 (e.off : Int), .int .u64 (e.val : Int), .int .u64 (e.old : Int), .int .i64 (e.line : Int), .int .i64 e.n, .int .i64 0] 67)
        have hR4 := ownsRow_only (ownsRow_only hR1a.out.s only2.out (fun k hk e => hR1a.out.os _ (by rw [hlk]; exact e) hk)) (Only.of_below hB25) (fun k hk e => by have := ownsRow_lt hR1a.out.s hk; simp at this; omega)
        rw [hlk] at hR4
        have hN4 := Has.new w4 [.int .i64 (e.k : Int), .int .i64 (e.t : Int), .int .u64 (e.off : Int), .int .u64 (e.val : Int), .int .u64 (e.old : Int), .int .i64 (e.line : Int), .int .i64 e.n, .int .i64 0] 67
        replace hB25 := Lib.hid hB25
        clear hB3 hB4 hB24 htd
        go_wp2_with (at_builtin; refine wpList_app rfl (.tmp 25) (.tmp 29) 62 rfl 67 (.agg #[.int .i64 0, .int .i64 0, .int .u64 0, .int .u64 0, .int .u64 0, .int .i64 0, .int .i64 0, .int .i64 0]) 8 64 Try.underlying62 info67 rfl (by decide) (by decide) sa k sc (reCells (evs (acs.take k))) (by exact hR4) rfl _ 1 1 [.int .i64 (e.k : Int), .int .i64 (e.t : Int), .int .u64 (e.off : Int), .int .u64 (e.val : Int), .int .u64 (e.old : Int), .int .i64 (e.line : Int), .int .i64 e.n, .int .i64 0] rfl rfl (by exact news_at hN4) (by simp [Value.oneCell']) (by exact hby2) ?_)
        intro sa' sc' w6 own6 only6 fresh6
        have hR6 := EvR.app hR1a.out (e := e) (oa' := oa') (oc' := oc') (sa' := sa') (sc' := sc') (by rw [hlk, hec.out]; exact own2.out) (by rw [hlk]; exact only2.out) (by rw [hlk]; simpa using fresh2.out) hB25.out (by rw [hlk, hrc.out]; exact own6) (by rw [hlk]; exact only6) (by rw [hlk]; simpa using fresh6)
        rw [← htk.out] at hR6
        replace hR6 := Lib.hid hR6
        clear hR1a own6 only6 fresh6 own2 only2 fresh2 hB25 hR4 hN4 hob
        go_wp2_with fail
        go_roundw
        case rel => first | exact ⟨k + 1, oa', oc', sa', sc', by omega, by omega, by go_num, rfl, rfl, hR6.out⟩ | ((repeat apply Exists.intro); exact ⟨⟨k + 1, oa', oc', sa', sc', by omega, by omega, by go_num, rfl, rfl, hR6.out⟩, rfl⟩)
        case measure => simp [intOf]; omega
    · have hee : evs (acs.take k) = evs (acs.take m) := by
        rw [List.take_of_length_le (by omega), List.take_of_length_le (by omega)]
      have hkI : ¬ (k : Int) < acs.length := by omega
      have hlm : (evs (acs.take m)).length = k := by rw [← hee]; exact hlk
      have hd := hR.done (by omega) (hgood k)
      rw [hee, hlm] at hd
      replace hlm := Lib.hid hlm
      replace hd := Lib.hid hd
      clear hR
      replace hee := Lib.hid hee
      go_wp2_with fail
      refine hd.out.mono ?_
      rintro e w' ⟨ra, rc, rfl, hP⟩
      rw [hpost.out] at hP
      replace hP := Lib.hid hP
      clear hd
      go_wp2_with fail
      first | exact hP.out | (go_ret2; exact hP.out)
end Go.Proofs.Ytpgjpoilcdkjgaa
