/- first's row as next wants it. -/
import Derived.Test.YtdminbjenbbpaaaG13
namespace Go.Proofs.Ytdminbjenbbpaaa
open Go.RowKit
theorem RowAt.of_own {w : World} {sa : Option Addr} {cap : Nat} {L : List Nat} (hne : L ≠ [])
    (h : w.ownsRow 0 3 1 (.slice sa L.length cap) L.length (L.map fun (n : Nat) => Value.int .i64 (n : Int))) :
    ∃ b, sa = some ⟨b, 0, none⟩ ∧ L.length ≤ cap ∧ RowAt w b L := by
  obtain ⟨h1, h2⟩ := h
  rcases h2 with ⟨hv, h0⟩ | ⟨g, cap', cur, hv, _, hh, hle, _, hz, ht⟩
  · exact absurd (List.length_eq_zero_iff.1 h0) hne
  · simp only [Value.slice.injEq, true_and] at hv
    obtain ⟨rfl, rfl⟩ := hv
    refine ⟨g, rfl, by omega, fun j hj => ⟨?_, ?_⟩⟩
    · have hj2 : (L.map fun (n : Nat) => Value.int .i64 (n : Int))[j]? = some (.int .i64 ((L.getD j 0 : Nat) : Int)) := by
        rw [List.getElem?_map, List.getElem?_eq_getElem hj, List.getD_eq_getElem?_getD, List.getElem?_eq_getElem hj]; rfl
      rw [← ht, List.getElem?_take] at hj2
      split at hj2
      · simp only [World.cell?, hh]; simpa using hj2
      · cases hj2
    · simp only [World.frozen?, hh]; simp
set_option maxHeartbeats 1000000 in
set_option maxRecDepth 100000 in
theorem next_empty (sa : Option Addr) (c : Nat) (w : World) :
    Calls Try.prog 46 #[.slice sa 0 c] w fun e w' => e = .returned (.bool false) ∧ ∃ d, w' = w.drewN d := by
  go_enter Try.func46, Try.ntmps46
  go_wp2_with fail
  go_loopw [3] (fun iv wr => iv = .int .i64 (-2) ∧ wr = w) (fun iv _ => 0)
  case atStart => exact ⟨by first | rfl | decide, rfl⟩
  case round =>
    obtain ⟨rfl, rfl⟩ := hrel
    go_wp2_with fail
    go_quiet (fail)
    go_wp2_with fail
    go_ret
    exact ⟨rfl, _, rfl⟩
end Go.Proofs.Ytdminbjenbbpaaa
