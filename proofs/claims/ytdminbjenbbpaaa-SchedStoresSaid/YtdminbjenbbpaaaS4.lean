/- Contracts of start, step, Run. -/
import Derived.Test.YtdminbjenbbpaaaS1
namespace Go.Proofs.Ytdminbjenbbpaaa
open Go.RowKit

structure RunSt (w : World) (br be : Nat) (msv : Value) (sa : Option Addr) (sc : Nat) (steps ended : List Int) (left : Int) : Prop where
  run : Has w br [msv, .slice sa steps.length sc, .slice (some ⟨be, 0, none⟩) ended.length ended.length, .int .i64 left] 77
  own : w.ownsRow 0 3 1 (.slice sa steps.length sc) steps.length (steps.map (.int .i64))
  ended : Has w be (ended.map (.int .i64)) 3
  ne : br ≠ be
  nr : Value.ownBlock (.slice sa steps.length sc) ≠ some br
  nb : Value.ownBlock (.slice sa steps.length sc) ≠ some be
theorem RunSt.only {w w' : World} {br be : Nat} {msv : Value} {sa sc} {steps ended : List Int} {left : Int} {F : Nat → Prop} (h : RunSt w br be msv sa sc steps ended left) (ho : Only F w w')
    (h1 : ¬ F br) (h2 : ¬ F be) (h3 : ∀ k, Value.ownBlock (.slice sa steps.length sc) = some k → ¬ F k) : RunSt w' br be msv sa sc steps ended left :=
  ⟨h.run.only ho h1, ownsRow_only h.own ho h3, h.ended.only ho h2, h.ne, h.nr, h.nb⟩


theorem RunSt.pushed {w2 w3 : World} {br be : Nat} {msv : Value} {sa sc} {steps ended : List Int} {left : Int} (h : RunSt w2 br be msv sa sc steps ended left) {sa' : Option Addr} {sc' : Nat} {i : Int}
    (own : w3.ownsRow 0 3 1 (.slice sa' (steps.length + 1) sc') (steps.length + 1) (steps.map (.int .i64) ++ [.int .i64 i])) (ho : Only (fun k => Value.ownBlock (.slice sa steps.length sc) = some k) w2 w3)
    (hf : ∀ k, Value.ownBlock (.slice sa' (steps.length + 1) sc') = some k → Value.ownBlock (.slice sa steps.length sc) = some k ∨ w2.heap.size ≤ k) :
    RunSt (w3.setCell ⟨br, 1, none⟩ (.slice sa' (steps.length + 1) sc')) br be msv sa' sc' (steps ++ [i]) ended left := by
  have hr := h.run.only ho h.nr
  have he := h.ended.only ho h.nb
  have hb : ∀ b, b < w2.heap.size → Value.ownBlock (.slice sa steps.length sc) ≠ some b → Value.ownBlock (.slice sa' (steps.length + 1) sc') ≠ some b := fun b hb hn e => by
    rcases hf b e with h1 | h1
    · exact hn h1
    · omega
  have nr := hb br h.run.lt h.nr
  have nb := hb be h.ended.lt h.nb
  refine ⟨?_, ?_, he.set_ne (by simpa using h.ne.symm) _, h.ne, ?_, ?_⟩
  · have := hr.set 1 (.slice sa' (steps.length + 1) sc')
    simpa using this
  · simp only [List.length_append, List.length_cons, List.length_nil, Nat.zero_add, List.map_append, List.map_cons, List.map_nil]
    exact ownsRow_setCell_other own (by simpa using nr) _
  · simpa using nr
  · simpa using nb

theorem RunSt.ends {w : World} {br be : Nat} {msv : Value} {sa sc} {steps ended : List Int} {left : Int} (h : RunSt w br be msv sa sc steps ended left) (i : Nat) (q l : Int) :
    RunSt ((w.setCell ⟨be, i, none⟩ (.int .i64 q)).setCell ⟨br, 3, none⟩ (.int .i64 l)) br be msv sa sc steps (ended.set i q) l := by
  refine ⟨?_, ?_, ?_, h.ne, h.nr, h.nb⟩
  · have := (h.run.set_ne (a := ⟨be, i, none⟩) (by simpa using h.ne) (.int .i64 q)).set 3 (.int .i64 l)
    simpa using this
  · exact ownsRow_setCell_other (ownsRow_setCell_other h.own (by simpa using h.nb) _) (by simpa using h.nr) _
  · have := (h.ended.set i (.int .i64 q)).set_ne (a := ⟨br, 3, none⟩) (by simpa using h.ne.symm) (.int .i64 l)
    rw [List.map_set]; exact this

theorem RunSt.drew {w : World} {br be : Nat} {msv : Value} {sa sc} {steps ended : List Int} {left : Int} (h : RunSt w br be msv sa sc steps ended left) : RunSt w.drew br be msv sa sc steps ended left := ⟨h.run, h.own, h.ended, h.ne, h.nr, h.nb⟩

/-- What a step of the machine i leaves. -/
def StepPost (R : World → Prop) (F : Nat → Prop) (w : World) (br be : Nat) (msv : Value) (sa : Option Addr) (sc : Nat) (steps ended : List Int) (left : Int) (i : Nat) (b : Bool) (w' : World) : Prop :=
  ∃ w1 sa' sc', R w1 ∧ Only F w w1 ∧ Only (fun k => k = br ∨ k = be ∨ Value.ownBlock (.slice sa steps.length sc) = some k) w1 w' ∧
    RunSt w' br be msv sa' sc' (steps ++ [(i : Int)]) (if b then ended.set i steps.length else ended) (if b then left - 1 else left) ∧
    (∀ k, Value.ownBlock (.slice sa' (steps.length + 1) sc') = some k → Value.ownBlock (.slice sa steps.length sc) = some k ∨ w1.heap.size ≤ k)

set_option maxRecDepth 100000 in
set_option maxHeartbeats 1000000 in
theorem runstep_go (br be bm off : Nat) (sa sc) (steps ended : List Int) (left : Int) (w : World) (i n cap : Nat) (hi : i < n) (hn : n ≤ 9223372036854775807) (hl : i < ended.length)
    (h : RunSt w br be (.slice (some ⟨bm, off, none⟩) n cap) sa sc steps ended left) (ad : Addr) (hm : w.cell? ⟨bm, off + i, none⟩ = some (.iface 46 (.pointer (some ad)))) (he : ended.getD i 0 < 0) 
    (b : Bool) (R : World → Prop) (F : Nat → Prop) (h1 : ¬ F br) (h2 : ¬ F be) (h3 : ∀ k, Value.ownBlock (.slice sa steps.length sc) = some k → ¬ F k)
    (hcall : Hid (Calls Try.prog 24 #[.pointer (some ad)] w (fun e w1 => e = .returned (.bool b) ∧ R w1 ∧ Only F w w1))) (hlr : 0 < left ∧ left ≤ 9223372036854775807) (hsl : steps.length < 1099511627776) :
    Calls Try.prog 34 #[.pointer (some ⟨br, 0, none⟩), .int .i64 i] w fun e w' => e = .returned (.tuple #[]) ∧ StepPost R F w br be (.slice (some ⟨bm, off, none⟩) n cap) sa sc steps ended left i b w' := by
  have c0 := h.run.cell (o := 0) rfl
  have c1 := h.run.cell (o := 1) rfl
  have c2 := h.run.cell (o := 2) rfl
  have c3 := h.ended.cell (ints_get ended .i64 i hl)
  generalize ended.getD i 0 = q at *
  go_enter Try.func34, Try.ntmps34
  go_wp2_with fail
  refine hcall.out.mono ?_
  rintro e w1 ⟨rfl, hR, hO⟩
  have h' := h.only hO h1 h2 h3
  clear c0 c1 c2 c3
  have c0 := h'.run.cell (o := 0) rfl
  have c1 := h'.run.cell (o := 1) rfl
  have c2 := h'.run.cell (o := 2) rfl
  have c4 := h'.run.cell (o := 3) rfl
  have f3 := h'.run.free 3
  have f1 := h'.run.free 1
  have c3 := h'.ended.cell (ints_get ended .i64 i hl)
  have f2 := h'.ended.free i
  cases b
  · go_wp2_with (at_builtin; refine wpList_app1 rfl (.tmp 58) (.tmp 60) 23 rfl 3 (.int .i64 0) 8 Try.underlying23 info3 rfl (by decide) sa steps.length sc (steps.map (.int .i64)) rfl (.int .i64 i) _ w1 rfl rfl h'.own _ rfl rfl rfl ?hby ?_)
    case hby => omega
    intro sa' sc' w2 own2 only2 fresh2
    have d1 := (h'.run.only only2 h'.nr).cell (o := 1) rfl
    have g1 := (h'.run.only only2 h'.nr).free 1
    clear c0 c1 c2 c3 c4 f1 f2 f3
    go_wp2_with fail
    exact bodyPost_end (results_none rfl _ _ _) rfl ⟨rfl, w1, sa', sc', hR, hO, (only2.mono fun k _ h => .inr (.inr h)).setCell (fun _ => .inl rfl) _, h'.pushed own2 only2 fresh2, fresh2⟩
  · have H2 := h'.ends i steps.length (left - 1)
    have d4 := (h'.run.set_ne (a := ⟨be, i, none⟩) (by simpa using h.ne) (.int .i64 steps.length)).cell (o := 3) rfl
    have d1 := H2.run.cell (o := 1) rfl
    go_wp2_with fail
    go_region
    clear c0 c1 c2 c3 c4
    have H3 := H2.drew
    go_wp2_with (at_builtin; refine wpList_app1 rfl (.tmp 58) (.tmp 60) 23 rfl 3 (.int .i64 0) 8 Try.underlying23 info3 rfl (by decide) sa steps.length sc (steps.map (.int .i64)) rfl (.int .i64 i) _ ((w1.setCell ⟨be, i, none⟩ (.int .i64 steps.length)).setCell ⟨br, 3, none⟩ (.int .i64 (left - 1))).drew rfl rfl H3.own _ rfl (by simp) rfl ?hby2 ?_)
    case hby2 => omega
    intro sa' sc' w2 own2 only2 fresh2
    have e1 := (H3.run.only only2 h'.nr).cell (o := 1) rfl
    have g1 := (H3.run.only only2 h'.nr).free 1
    clear d1 d4 f1 f2 f3
    go_wp2_with fail
    refine bodyPost_end (results_none rfl _ _ _) rfl ⟨rfl, w1, sa', sc', hR, hO, Only.setCell (Only.trans' (Only.drew (((Only.refl _ w1).setCell (fun _ => .inr (.inl rfl)) _).setCell (fun _ => .inl rfl) _)) only2 (fun k _ h => .inr (.inr h))) (fun _ => .inl rfl) _, H3.pushed own2 only2 (fun k hk => by simpa using fresh2 k hk), fresh2⟩

set_option maxHeartbeats 1000000 in
theorem runstep_nil (br be bm off : Nat) (sa sc) (steps ended : List Int) (left : Int) (w : World) (i n cap : Nat) (hi : i < n) (hn : n ≤ 9223372036854775807)
    (h : RunSt w br be (.slice (some ⟨bm, off, none⟩) n cap) sa sc steps ended left) (hm : w.cell? ⟨bm, off + i, none⟩ = some .nilIface) :
    Calls Try.prog 34 #[.pointer (some ⟨br, 0, none⟩), .int .i64 i] w fun e w' => e = .returned (.tuple #[]) ∧ w = w' := by
  have c0 := h.run.cell (o := 0) rfl
  have c1 := h.run.cell (o := 1) rfl
  have c2 := h.run.cell (o := 2) rfl
  go_enter Try.func34, Try.ntmps34
  go_wp2_with fail
  exact bodyPost_ret (results_none rfl _ _ _) rfl ⟨rfl, rfl⟩

set_option maxHeartbeats 1000000 in
theorem runstep_done (br be bm off : Nat) (sa sc) (steps ended : List Int) (left : Int) (w : World) (i n cap : Nat) (hi : i < n) (hn : n ≤ 9223372036854775807) (hl : i < ended.length)
    (h : RunSt w br be (.slice (some ⟨bm, off, none⟩) n cap) sa sc steps ended left) (tt : Nat) (x : Value) (hm : w.cell? ⟨bm, off + i, none⟩ = some (.iface tt x)) (he : 0 ≤ ended.getD i 0) :
    Calls Try.prog 34 #[.pointer (some ⟨br, 0, none⟩), .int .i64 i] w fun e w' => e = .returned (.tuple #[]) ∧ w = w' := by
  have c0 := h.run.cell (o := 0) rfl
  have c1 := h.run.cell (o := 1) rfl
  have c2 := h.run.cell (o := 2) rfl
  have c3 := h.ended.cell (ints_get ended .i64 i hl)
  generalize ended.getD i 0 = q at *
  go_enter Try.func34, Try.ntmps34
  go_wp2_with fail
  exact bodyPost_ret (results_none rfl _ _ _) rfl ⟨rfl, rfl⟩
end Go.Proofs.Ytdminbjenbbpaaa
