/- SchedStores: run.step over a writer; start over a list of writers (after S4, S5). -/
import Derived.Test.YtdminbjenbbpaaaU1
namespace Go.Proofs.Ytdminbjenbbpaaa
open Go.RowKit

def wval (b : Nat) : Value := .iface 58 (.pointer (some ⟨b, 0, none⟩))
theorem wvals_get (ms : List Nat) (i : Nat) (x : Nat) (h : ms[i]? = some x) : (ms.map wval)[i]? = some (wval x) := by
  simp [List.getElem?_map, h]
set_option maxRecDepth 100000 in
set_option maxHeartbeats 1000000 in
theorem wrun_go (br be bm off : Nat) (sa sc) (steps ended : List Int) (left : Int) (w : World) (i n cap : Nat) (hi : i < n) (hn : n ≤ 9223372036854775807) (hl : i < ended.length)
    (h : RunSt w br be (.slice (some ⟨bm, off, none⟩) n cap) sa sc steps ended left) (ad : Addr) (hm : w.cell? ⟨bm, off + i, none⟩ = some (.iface 58 (.pointer (some ad)))) (he : ended.getD i 0 < 0) 
    (b : Bool) (R : World → Prop) (F : Nat → Prop) (h1 : ¬ F br) (h2 : ¬ F be) (h3 : ∀ k, Value.ownBlock (.slice sa steps.length sc) = some k → ¬ F k)
    (hcall : Hid (Calls Try.prog 75 #[.pointer (some ad)] w (fun e w1 => e = .returned (.bool b) ∧ R w1 ∧ Only F w w1))) (hlr : 0 < left ∧ left ≤ 9223372036854775807) (hsl : steps.length < 1099511627776) :
    Calls Try.prog 34 #[.pointer (some ⟨br, 0, none⟩), .int .i64 i] w fun e w' => e = .returned (.tuple #[]) ∧ StepPost R F w br be (.slice (some ⟨bm, off, none⟩) n cap) sa sc steps ended left i b w' := by
  have c0 := h.run.cell (o := 0) rfl
  have c1 := h.run.cell (o := 1) rfl
  have c2 := h.run.cell (o := 2) rfl
  have c3 := h.ended.cell (ints_get ended .i64 i hl)
  generalize ended.getD i 0 = q at *
  go_enter Try.func34, Try.ntmps34
  go_wp2_with fail
  refine hcall.out.mono ?_
  rintro e w1 ⟨rfl, hR, hO⟩
  have h' := h.only hO h1 h2 h3
  clear c0 c1 c2 c3
  have c0 := h'.run.cell (o := 0) rfl
  have c1 := h'.run.cell (o := 1) rfl
  have c2 := h'.run.cell (o := 2) rfl
  have c4 := h'.run.cell (o := 3) rfl
  have f3 := h'.run.free 3
  have f1 := h'.run.free 1
  have c3 := h'.ended.cell (ints_get ended .i64 i hl)
  have f2 := h'.ended.free i
  cases b
  · go_wp2_with (at_builtin; refine wpList_app1 rfl (.tmp 58) (.tmp 60) 23 rfl 3 (.int .i64 0) 8 Try.underlying23 info3 rfl (by decide) sa steps.length sc (steps.map (.int .i64)) rfl (.int .i64 i) _ w1 rfl rfl h'.own _ rfl rfl rfl ?hby ?_)
    case hby => omega
    intro sa' sc' w2 own2 only2 fresh2
    have d1 := (h'.run.only only2 h'.nr).cell (o := 1) rfl
    have g1 := (h'.run.only only2 h'.nr).free 1
    clear c0 c1 c2 c3 c4 f1 f2 f3
    go_wp2_with fail
    exact bodyPost_end (results_none rfl _ _ _) rfl ⟨rfl, w1, sa', sc', hR, hO, (only2.mono fun k _ h => .inr (.inr h)).setCell (fun _ => .inl rfl) _, h'.pushed own2 only2 fresh2, fresh2⟩
  · have H2 := h'.ends i steps.length (left - 1)
    have d4 := (h'.run.set_ne (a := ⟨be, i, none⟩) (by simpa using h.ne) (.int .i64 steps.length)).cell (o := 3) rfl
    have d1 := H2.run.cell (o := 1) rfl
    go_wp2_with fail
    go_region
    clear c0 c1 c2 c3 c4
    have H3 := H2.drew
    go_wp2_with (at_builtin; refine wpList_app1 rfl (.tmp 58) (.tmp 60) 23 rfl 3 (.int .i64 0) 8 Try.underlying23 info3 rfl (by decide) sa steps.length sc (steps.map (.int .i64)) rfl (.int .i64 i) _ ((w1.setCell ⟨be, i, none⟩ (.int .i64 steps.length)).setCell ⟨br, 3, none⟩ (.int .i64 (left - 1))).drew rfl rfl H3.own _ rfl (by simp) rfl ?hby2 ?_)
    case hby2 => omega
    intro sa' sc' w2 own2 only2 fresh2
    have e1 := (H3.run.only only2 h'.nr).cell (o := 1) rfl
    have g1 := (H3.run.only only2 h'.nr).free 1
    clear d1 d4 f1 f2 f3
    go_wp2_with fail
    refine bodyPost_end (results_none rfl _ _ _) rfl ⟨rfl, w1, sa', sc', hR, hO, Only.setCell (Only.trans' (Only.drew (((Only.refl _ w1).setCell (fun _ => .inr (.inl rfl)) _).setCell (fun _ => .inl rfl) _)) only2 (fun k _ h => .inr (.inr h))) (fun _ => .inl rfl) _, H3.pushed own2 only2 (fun k hk => by simpa using fresh2 k hk), fresh2⟩

def wstartPost (msv : Value) (ms : List Nat) (w : World) (e : Ending) (w' : World) : Prop :=
  e = .returned (.pointer (some ⟨w.heap.size + 1, 0, none⟩)) ∧ RunSt w' (w.heap.size + 1) w.heap.size msv none 0 [] (List.replicate ms.length (-1)) (ms.length : Int) ∧ Below w.heap.size w w'

set_option maxHeartbeats 1000000 in
theorem wstart_any (a : Option Addr) (cap : Nat) (ms : List Nat) (w : World) (hv : Rd w (.slice a ms.length cap) ms.length (ms.map wval)) (hvb : ∀ k, Value.ownBlock (.slice a ms.length cap) = some k → k < w.heap.size) (hn : ms.length < 1099511627776) :
    Calls Try.prog 33 #[.slice a ms.length cap] w (wstartPost (.slice a ms.length cap) ms w) := by
  have hmk := make1 23 3 (.int .i64 0) 8 Try.underlying23 info3 rfl ms.length (by omega) (by omega) w
  have H0 := (Has.rep w ms.length (.int .i64 0) 3).alloc (.cells #[.slice a ms.length cap, .slice none 0 0, .slice (some ⟨w.heap.size, 0, none⟩) ms.length ms.length, .int .i64 0] 77)
  have H1 := Has.new (w.alloc (.cells (Array.replicate ms.length (.int .i64 0)) 3)) [.slice a ms.length cap, .slice none 0 0, .slice (some ⟨w.heap.size, 0, none⟩) ms.length ms.length, .int .i64 0] 77
  have H0 := Lib.hid H0
  have H1 := Lib.hid H1
  obtain ⟨a', cap', hv0, hvc⟩ := hv
  simp only [Value.slice.injEq, true_and] at hv0
  obtain ⟨rfl, rfl⟩ := hv0
  go_enter Try.func33, Try.ntmps33
  go_wp2_with fail
  go_loopw [15] (fun i wr => ∃ (k : Nat), k ≤ ms.length ∧ i = .int .i64 k ∧ RunSt wr (w.heap.size + 1) w.heap.size (.slice a ms.length cap) none 0 [] (List.replicate k (-1) ++ List.replicate (ms.length - k) 0) (k : Int) ∧ Below w.heap.size w wr)
    (fun i _ => ms.length - (intOf i).toNat)
  case atStart =>
    refine ⟨0, Nat.zero_le _, rfl, ⟨?_, World.ownsRow_nil _ _ _ _, ?_, by simp, by simp [Value.ownBlock], by simp [Value.ownBlock]⟩, ?_⟩
    · simpa using H1.out
    · simpa using H0.out
    · exact ((Below.refl _ _).alloc (Nat.le_refl _) _).alloc (by simp) _
  case round =>
    obtain ⟨k, hk, rfl, hR, hB⟩ := hrel
    clear hmk H0 H1
    have hsz := hB.size
    by_cases hlt : k < ms.length
    · rcases hvc with ⟨h0, _⟩ | ⟨b, off, rfl, hvc⟩
      · omega
      have hx : ms[k]? = some (ms[k]'hlt) := List.getElem?_eq_getElem hlt
      generalize ms[k]'hlt = x at *
      have hc := (hB.cell (p := ⟨b, off + k, none⟩) (hvb b rfl)).trans (hvc k _ (wvals_get ms k x hx))
      have lenE : (List.replicate k (-1 : Int) ++ List.replicate (ms.length - k) 0).length = ms.length := by simp; omega
      have c2 := hR.run.cell (o := 2) rfl
      have c3 := hR.run.cell (o := 3) rfl
      have ce := hR.ended.cell (o := k) (v := .int .i64 0) (by
        rw [List.getElem?_map, List.getElem?_append_right (by simp)]
        simp only [List.length_replicate, Nat.sub_self]
        rw [List.getElem?_replicate, if_pos (by omega)]; rfl)
      have f3 := hR.run.free 3
      have fe := hR.ended.free k
      have H3 := hR.end1 k (-1)
      rw [rep_set ms.length k hlt] at H3
      have d3 := H3.run.cell (o := 3) rfl
      have g3 := H3.run.free 3
      have H4 := H3.left1 ((k : Int) + 1)
      rw [lenE] at c2
      have H3 := Lib.hid H3
      have H4 := Lib.hid H4
      clear lenE hR hx hvc
      have hBs := hB.setCell (p := ⟨w.heap.size, k, none⟩) (Nat.le_refl _) (.int .i64 (-1))
      have hBt := hBs.setCell (p := ⟨w.heap.size + 1, 3, none⟩) (by simp) (.int .i64 ((k : Int) + 1))
      simp only [wval] at hc
      go_wp2_with fail
      go_roundw
      case rel =>
        refine ⟨k + 1, by omega, by go_num, ?_, hBt⟩
        simpa using H4.out
      case measure => simp [intOf]; omega
    · have : k = ms.length := by omega
      subst this
      go_wp2_with fail
      go_ret
      exact ⟨rfl, by simpa using hR, hB⟩
end Go.Proofs.Ytdminbjenbbpaaa
