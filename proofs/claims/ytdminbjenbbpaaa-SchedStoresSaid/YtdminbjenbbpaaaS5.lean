/- Contracts of start and of one step, over machines that are nil or Steps objects. -/
import Derived.Test.YtdminbjenbbpaaaS4
namespace Go.Proofs.Ytdminbjenbbpaaa
open Go.RowKit

def cnt (ms : List (Option Nat)) : Nat := (ms.filter Option.isSome).length
theorem cnt_le (ms : List (Option Nat)) : cnt ms ≤ ms.length := List.length_filter_le _ _

theorem mvals_get (ms : List (Option Nat)) (i : Nat) (x : Option Nat) (h : ms[i]? = some x) : (ms.map mval)[i]? = some (mval x) := by
  simp [List.getElem?_map, h]

theorem RunSt.end1 {w : World} {br be : Nat} {msv : Value} {sa sc} {steps ended : List Int} {left : Int} (h : RunSt w br be msv sa sc steps ended left) (i : Nat) (q : Int) :
    RunSt (w.setCell ⟨be, i, none⟩ (.int .i64 q)) br be msv sa sc steps (ended.set i q) left := by
  refine ⟨?_, ownsRow_setCell_other h.own (by simpa using h.nb) _, ?_, h.ne, h.nr, h.nb⟩
  · have := h.run.set_ne (a := ⟨be, i, none⟩) (by simpa using h.ne) (.int .i64 q)
    simpa using this
  · have := h.ended.set i (.int .i64 q)
    rw [List.map_set]; exact this
theorem RunSt.left1 {w : World} {br be : Nat} {msv : Value} {sa sc} {steps ended : List Int} {left : Int} (h : RunSt w br be msv sa sc steps ended left) (l : Int) :
    RunSt (w.setCell ⟨br, 3, none⟩ (.int .i64 l)) br be msv sa sc steps ended l := by
  refine ⟨?_, ownsRow_setCell_other h.own (by simpa using h.nr) _, h.ended.set_ne (by simpa using h.ne.symm) _, h.ne, h.nr, h.nb⟩
  have := h.run.set 3 (.int .i64 l)
  simpa using this

def startPost (msv : Value) (ms : List (Option Nat)) (w : World) (e : Ending) (w' : World) : Prop :=
  e = .returned (.pointer (some ⟨w.heap.size + 1, 0, none⟩)) ∧ RunSt w' (w.heap.size + 1) w.heap.size msv none 0 [] (List.replicate ms.length (-1)) (cnt ms) ∧ Below w.heap.size w w'

theorem rep_set (n k : Nat) (h : k < n) : (List.replicate k (-1 : Int) ++ List.replicate (n - k) 0).set k (-1) = List.replicate (k + 1) (-1) ++ List.replicate (n - (k + 1)) 0 := by
  obtain ⟨m, rfl⟩ : ∃ m, n = k + 1 + m := ⟨n - (k+1), by omega⟩
  rw [List.set_append_right _ _ (by simp)]
  simp only [List.length_replicate, Nat.sub_self]
  rw [show k + 1 + m - k = m + 1 from by omega, show k + 1 + m - (k + 1) = m from by omega, List.replicate_succ, List.replicate_succ', List.set_cons_zero]
  simp

set_option maxHeartbeats 1000000 in
theorem start_any (a : Option Addr) (cap : Nat) (ms : List (Option Nat)) (w : World) (hv : Rd w (.slice a ms.length cap) ms.length (ms.map mval)) (hvb : ∀ k, Value.ownBlock (.slice a ms.length cap) = some k → k < w.heap.size) (hn : ms.length < 1099511627776) :
    Calls Try.prog 33 #[.slice a ms.length cap] w (startPost (.slice a ms.length cap) ms w) := by
  have hmk := make1 23 3 (.int .i64 0) 8 Try.underlying23 info3 rfl ms.length (by omega) (by omega) w
  have H0 := (Has.rep w ms.length (.int .i64 0) 3).alloc (.cells #[.slice a ms.length cap, .slice none 0 0, .slice (some ⟨w.heap.size, 0, none⟩) ms.length ms.length, .int .i64 0] 77)
  have H1 := Has.new (w.alloc (.cells (Array.replicate ms.length (.int .i64 0)) 3)) [.slice a ms.length cap, .slice none 0 0, .slice (some ⟨w.heap.size, 0, none⟩) ms.length ms.length, .int .i64 0] 77
  have H0 := Lib.hid H0
  have H1 := Lib.hid H1
  obtain ⟨a', cap', hv0, hvc⟩ := hv
  simp only [Value.slice.injEq, true_and] at hv0
  obtain ⟨rfl, rfl⟩ := hv0
  go_enter Try.func33, Try.ntmps33
  go_wp2_with fail
  go_loopw [15] (fun i wr => ∃ (k : Nat), k ≤ ms.length ∧ i = .int .i64 k ∧ RunSt wr (w.heap.size + 1) w.heap.size (.slice a ms.length cap) none 0 [] (List.replicate k (-1) ++ List.replicate (ms.length - k) 0) (cnt (ms.take k)) ∧ Below w.heap.size w wr)
    (fun i _ => ms.length - (intOf i).toNat)
  case atStart =>
    refine ⟨0, Nat.zero_le _, rfl, ⟨?_, World.ownsRow_nil _ _ _ _, ?_, by simp, by simp [Value.ownBlock], by simp [Value.ownBlock]⟩, ?_⟩
    · simpa [cnt] using H1.out
    · simpa using H0.out
    · exact ((Below.refl _ _).alloc (Nat.le_refl _) _).alloc (by simp) _
  case round =>
    obtain ⟨k, hk, rfl, hR, hB⟩ := hrel
    clear hmk H0 H1
    have hsz := hB.size
    by_cases hlt : k < ms.length
    · rcases hvc with ⟨h0, _⟩ | ⟨b, off, rfl, hvc⟩
      · omega
      have hx : ms[k]? = some (ms[k]'hlt) := List.getElem?_eq_getElem hlt
      have htk : ms.take (k+1) = ms.take k ++ [ms[k]'hlt] := by rw [List.take_add_one, hx]; rfl
      generalize ms[k]'hlt = x at *
      have hc := (hB.cell (p := ⟨b, off + k, none⟩) (hvb b rfl)).trans (hvc k _ (mvals_get ms k x hx))
      have hcl := cnt_le (ms.take k)
      have hcl2 : (ms.take k).length ≤ k := List.length_take_le _ _
      have lenE : (List.replicate k (-1 : Int) ++ List.replicate (ms.length - k) 0).length = ms.length := by simp; omega
      have c2 := hR.run.cell (o := 2) rfl
      have c3 := hR.run.cell (o := 3) rfl
      have ce := hR.ended.cell (o := k) (v := .int .i64 0) (by
        rw [List.getElem?_map, List.getElem?_append_right (by simp)]
        simp only [List.length_replicate, Nat.sub_self]
        rw [List.getElem?_replicate, if_pos (by omega)]; rfl)
      have f3 := hR.run.free 3
      have fe := hR.ended.free k
      have H3 := hR.end1 k (-1)
      rw [rep_set ms.length k hlt] at H3
      have d3 := H3.run.cell (o := 3) rfl
      have g3 := H3.run.free 3
      have H4 := H3.left1 (cnt (ms.take k) + 1)
      rw [lenE] at c2
      have H3 := Lib.hid H3
      have H4 := Lib.hid H4
      have Htk := Lib.hid htk
      clear htk lenE hR hx hvc
      have hBs := hB.setCell (p := ⟨w.heap.size, k, none⟩) (Nat.le_refl _) (.int .i64 (-1))
      have hBt := hBs.setCell (p := ⟨w.heap.size + 1, 3, none⟩) (by simp) (.int .i64 (cnt (ms.take k) + 1))
      cases x with
      | none =>
        simp only [mval] at hc
        go_wp2_with fail
        go_roundw
        case rel => 
          refine ⟨k + 1, by omega, by go_num, ?_, hBs⟩
          rw [Htk.out]
          simpa [cnt] using H3.out
        case measure => simp [intOf]; omega
      | some x =>
        simp only [mval] at hc
        go_wp2_with fail
        go_roundw
        case rel => 
          refine ⟨k + 1, by omega, by go_num, ?_, hBt⟩
          rw [Htk.out]
          simpa [cnt] using H4.out
        case measure => simp [intOf]; omega
    · have : k = ms.length := by omega
      subst this
      go_wp2_with fail
      go_ret
      exact ⟨rfl, by simpa using hR, hB⟩
end Go.Proofs.Ytdminbjenbbpaaa
