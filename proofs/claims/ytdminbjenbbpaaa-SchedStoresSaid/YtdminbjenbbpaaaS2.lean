/- Contracts of few and same. -/
import Derived.Test.YtdminbjenbbpaaaS1
namespace Go.Proofs.Ytdminbjenbbpaaa
open Go.RowKit

def few1 (z : Int) : Int := z.tmod 21
def few2 (x : Int) : Int := if x < 0 then -1 else x
def fewL (zs : List Int) : List Int := ((zs.take 6).map few1).map few2

set_option maxHeartbeats 1000000 in
theorem few_any (a : Option Addr) (vc : Nat) (zs : List Int) (w : World) (hv : Rd w (.slice a zs.length vc) zs.length (zs.map (.int .i8)))
    (hz : ∀ z ∈ zs, -128 ≤ z ∧ z ≤ 127) (hn : zs.length ≤ 9223372036854775807) :
    Calls Try.prog 12 #[.slice a zs.length vc] w fun e w' => ∃ sa cap, e = .returned (.slice sa (fewL zs).length cap) ∧ w'.ownsRow 0 3 1 (.slice sa (fewL zs).length cap) (fewL zs).length ((fewL zs).map (.int .i64)) ∧
      Below w.heap.size w w' ∧ (∀ k, Value.ownBlock (.slice sa (fewL zs).length cap) = some k → w.heap.size ≤ k) := by
  obtain ⟨a', vc', hv0, hvc⟩ := hv
  simp only [Value.slice.injEq, true_and] at hv0
  obtain ⟨rfl, rfl⟩ := hv0
  go_enter Try.func12, Try.ntmps12
  go_wp2_with fail
  go_loopw [3, 4] (fun v i wr => ∃ (k : Nat) (sa : Option Addr) (cap : Nat), k ≤ zs.length ∧ k ≤ 6 ∧ i = .int .i64 k ∧ v = .slice sa k cap ∧ wr.ownsRow 0 3 1 (.slice sa k cap) k (((zs.take k).map few1).map (.int .i64)) ∧
      Below w.heap.size w wr ∧ (∀ k', Value.ownBlock (.slice sa k cap) = some k' → w.heap.size ≤ k'))
    (fun _ i _ => 6 - (intOf i).toNat)
  case atStart => exact ⟨0, none, 0, Nat.zero_le _, by omega, rfl, rfl, World.ownsRow_nil _ _ _ _, Below.refl _ _, by simp [Value.ownBlock]⟩
  case round =>
    obtain ⟨k, sa, cap, hk, hk6, rfl, rfl, hown, hB, hob⟩ := hrel
    by_cases hlt : k < zs.length ∧ k < 6
    · obtain ⟨hlt, hlt6⟩ := hlt
      rcases hvc with ⟨hz, _⟩ | ⟨b, off, rfl, hvc⟩
      · omega
      have hc0 := hvc k _ (ints_get zs .i8 k hlt)
      have hc := (hB.cell (p := ⟨b, off + k, none⟩) (by simpa using World.block_lt_of_cell? _ _ hc0)).trans hc0
      clear hc0
      have hsz := hB.size
      have hq1 := hz (zs.getD k 0) (by rw [List.getD, List.getElem?_eq_getElem hlt]; exact List.getElem_mem _)
      generalize hq : zs.getD k 0 = q at *
      have Hq := Lib.hid hq
      clear hq
      go_wp2_with (at_builtin; refine wpList_app1 rfl (.tmp 16) (.tmp 23) 23 rfl 3 (.int .i64 0) 8 Try.underlying23 info3 rfl (by decide) sa k cap (((zs.take k).map few1).map (.int .i64)) rfl (.int .i64 (q.tmod 21)) _ wr rfl rfl hown _ rfl rfl rfl ?hby ?_)
      case hby => omega
      intro sa' cap' w2 own2 only2 fresh2
      go_wp2_with fail
      go_roundw
      case rel =>
        refine ⟨k + 1, sa', cap', by omega, by omega, by go_num, rfl, ?_, hB.trans (only2.below (B := w.heap.size) hsz (fun b _ hb => hob b hb)), ?_⟩
        · rw [take_getD zs k 0 hlt, Hq.out]; simpa [few1] using own2
        · intro b hb
          rcases fresh2 b hb with h1 | h1
          · exact hob b h1
          · omega
      case measure => simp [intOf]; omega
    · have htk : zs.take k = zs.take 6 := by
        by_cases h6 : k = 6
        · rw [h6]
        · rw [List.take_of_length_le (by omega), List.take_of_length_le (by omega)]
      have hlen : ((zs.take 6).map few1).length = k := by simp; omega
      have hfin : fewL zs = ((zs.take 6).map few1).map few2 := rfl
      have Hfin := Lib.hid hfin
      clear hfin
      rw [htk] at hown
      have hsz := hB.size
      generalize (zs.take 6).map few1 = xs at *
      subst hlen
      clear hvc htk
      by_cases h6 : xs.length < zs.length
      all_goals
        go_wp2_with fail
        go_loopw [27] (fun i wr => ∃ (j : Nat), j ≤ xs.length ∧ i = .int .i64 j ∧ wr.ownsRow 0 3 1 (.slice sa xs.length cap) xs.length ((half few2 xs j).map (.int .i64)) ∧ Below w.heap.size w wr)
          (fun i _ => xs.length - (intOf i).toNat)
        case atStart => exact ⟨0, Nat.zero_le _, rfl, by rw [half_zero]; exact hown, hB⟩
        case round =>
          obtain ⟨j, hj, rfl, hown2, hB2⟩ := hrel
          clear hown hB
          by_cases hlt2 : j < xs.length
          · rcases hown2.2 with ⟨_, h0⟩ | ⟨g, cap', _, hg, _⟩
            · omega
            simp only [Value.slice.injEq, true_and] at hg
            obtain ⟨rfl, rfl⟩ := hg
            have hc := hown2.cellAt j (by omega)
            have hgj : ((half few2 xs j).map (Value.int .i64))[j]? = some (.int .i64 (xs.getD j 0)) := by
              rw [List.getElem?_map, half_get few2 xs j 0 hlt2]; rfl
            rw [hgj] at hc
            have hf := hown2.frozenAt j
            by_cases hneg : xs.getD j 0 < 0
            · have hst := hown2.stored j (.int .i64 (-1))
              rw [← List.map_set] at hst
              have e := half_set few2 xs j 0 hlt2
              rw [show few2 (xs.getD j 0) = -1 from if_pos hneg] at e
              rw [e] at hst
              clear e
              generalize xs.getD j 0 = q at *
              go_wp2_with fail
              go_roundw
              case rel => exact ⟨j + 1, by omega, by go_num, hst.1, hB2.grown hst.2 (by have := hB2.size; omega) (fun k hk => by simp at hk; subst hk; exact hob _ rfl)⟩
              case measure => simp [intOf]; omega
            · have e := half_keep few2 xs j 0 hlt2 (if_neg hneg)
              have He := Lib.hid e
              clear e
              have hneg' : 0 ≤ xs.getD j 0 := by omega
              generalize xs.getD j 0 = q at *
              go_wp2_with fail
              go_roundw
              case rel => exact ⟨j + 1, by omega, by go_num, by rw [He.out]; exact hown2, hB2⟩
              case measure => simp [intOf]; omega
          · have : j = xs.length := by omega
            subst this
            go_wp2_with fail
            go_ret
            rw [half_all] at hown2
            rw [Hfin.out]
            exact ⟨sa, cap, by simp, by simpa using hown2, hB2, by simpa using hob⟩

end Go.Proofs.Ytdminbjenbbpaaa
