/- Contracts of the specification's small functions: need, done, begin. -/
import Derived.Test.YtdminbjenbbpaaaS1
import Derived.Deep.RegionHeld3
namespace Go.Proofs.Ytdminbjenbbpaaa
open Go.RowKit

theorem need_any (n : Int) (w : World) : Calls Try.prog 48 #[.int .i64 n] w fun e w' => e = .returned (.int .i64 (max n 1)) ∧ w = w' := by
  by_cases h : n < 1
  · rw [show max n 1 = 1 from by omega]
    go_enter Try.func48, Try.ntmps48
    go_wp2
    go_ret
    exact ⟨rfl, rfl⟩
  · rw [show max n 1 = n from by omega]
    go_enter Try.func48, Try.ntmps48
    go_wp2
    go_ret
    exact ⟨rfl, rfl⟩

/-- How often m stands in a list. -/
def occ (m : Int) (xs : List Int) : Nat := (xs.filter (· == m)).length
theorem occ_snoc (m x : Int) (xs : List Int) : occ m (xs ++ [x]) = occ m xs + if x == m then 1 else 0 := by
  unfold occ; rw [List.filter_append]; by_cases h : x == m <;> simp [h]
theorem occ_le (m : Int) (xs : List Int) : occ m xs ≤ xs.length := List.length_filter_le _ _

set_option maxHeartbeats 1000000 in
theorem done_any (sa : Option Addr) (sc : Nat) (ev : Value) (steps : List Int) (m : Int) (w : World) (hs : Rd w (.slice sa steps.length sc) steps.length (steps.map (.int .i64))) (hl : steps.length < 1099511627776) :
    Calls Try.prog 47 #[.agg #[.slice sa steps.length sc, ev], .int .i64 m] w fun e w' => e = .returned (.int .i64 (occ m steps)) ∧ w.alloc (.cells #[.slice sa steps.length sc, ev] 31) = w' := by
  have hk := hs.kept (w' := w.alloc (.cells #[.slice sa steps.length sc, ev] 31)) ((Below.refl _ _).alloc (Nat.le_refl _) _)
  obtain ⟨sa', sc', he, hc⟩ := hk
  simp only [Value.slice.injEq, true_and] at he
  obtain ⟨rfl, rfl⟩ := he
  clear hs
  go_enter Try.func47, Try.ntmps47
  go_wp2_with fail
  go_loop [5, 6] (fun n i => ∃ k : Nat, k ≤ steps.length ∧ i = .int .i64 k ∧ n = .int .i64 (occ m (steps.take k))) (fun _ i => steps.length - (intOf i).toNat)
  case atStart => exact ⟨0, Nat.zero_le _, rfl, rfl⟩
  case round =>
    obtain ⟨k, hk, rfl, rfl⟩ := hrel
    have ho := occ_le m (steps.take k)
    have htl : (steps.take k).length ≤ k := List.length_take_le _ _
    by_cases hlt : k < steps.length
    · rcases hc with ⟨h0, _⟩ | ⟨b, off, rfl, hc⟩
      · omega
      have c := hc k _ (ints_get steps .i64 k hlt)
      have hsn := occ_snoc m (steps.getD k 0) (steps.take k)
      rw [← take_getD steps k 0 hlt] at hsn
      generalize steps.getD k 0 = x at *
      generalize occ m (steps.take k) = q at *
      clear hc
      by_cases hx : x = m
      · have hb : (x == m) = true := beq_iff_eq.2 hx
        rw [hb] at hsn
        replace hsn := Lib.hid hsn
        clear hx
        go_wp2
        go_round
        case rel => exact ⟨k + 1, by omega, by go_num, by rw [hsn.out]; go_num⟩
        case measure => simp [intOf]; omega
      · have hb : (x == m) = false := beq_eq_false_iff_ne.2 hx
        rw [hb] at hsn
        replace hsn := Lib.hid hsn
        clear hx
        go_wp2
        go_round
        case rel => exact ⟨k + 1, by omega, by go_num, by rw [hsn.out]; go_num⟩
        case measure => simp [intOf]; omega
    · have : k = steps.length := by omega
      subst this
      rw [List.take_of_length_le (Nat.le_refl _)]
      go_wp2
      go_ret
      exact ⟨rfl, rfl⟩

/-- A log of the specification: its two slices, rows of the call's own. -/
structure RLog (w : World) (sa : Option Addr) (sc : Nat) (ea : Option Addr) (ec : Nat) (steps ended : List Int) : Prop where
  st : w.ownsRow 0 3 1 (.slice sa steps.length sc) steps.length (steps.map (.int .i64))
  en : w.ownsRow 0 3 1 (.slice ea ended.length ec) ended.length (ended.map (.int .i64))
  ne : ∀ k, Value.ownBlock (.slice sa steps.length sc) = some k → Value.ownBlock (.slice ea ended.length ec) ≠ some k

set_option maxHeartbeats 1000000 in
theorem begin_any (v : Value) (n : Nat) (w : World) (hv : ∃ a cap, v = .slice a n cap) (hn : n < 1099511627776) :
    Calls Try.prog 35 #[v] w fun e w' => ∃ ea ec, e = .returned (.agg #[.slice none 0 0, .slice ea n ec]) ∧ w'.ownsRow 0 3 1 (.slice ea n ec) n ((List.replicate n (-1)).map (.int .i64)) ∧ Below w.heap.size w w' ∧
      (∀ k, Value.ownBlock (.slice ea n ec) = some k → w.heap.size ≤ k) := by
  obtain ⟨a, cap, rfl⟩ := hv
  have HA := (Has.new w [.slice none 0 0, .slice none 0 0] 31).alloc (.cells #[.slice none 0 0, .slice none 0 0] 31)
  have HB := Has.new (w.alloc (.cells [.slice none 0 0, .slice none 0 0].toArray 31)) [.slice none 0 0, .slice none 0 0] 31
  have hB0 : Below w.heap.size w ((w.alloc (.cells [.slice none 0 0, .slice none 0 0].toArray 31)).alloc (.cells [.slice none 0 0, .slice none 0 0].toArray 31)) := ((Below.refl _ _).alloc (Nat.le_refl _) _).alloc (by simp) _
  simp only [World.size_alloc] at HB
  go_enter Try.func35, Try.ntmps35
  go_wp2_with fail
  go_loopw [4] (fun i wr => ∃ (k : Nat) (ea : Option Addr) (ec : Nat), k ≤ n ∧ i = .int .i64 k ∧ Has wr w.heap.size [.slice none 0 0, .slice none 0 0] 31 ∧ Has wr (w.heap.size + 1) [.slice none 0 0, .slice ea k ec] 31 ∧
      wr.ownsRow 0 3 1 (.slice ea k ec) k ((List.replicate k (-1)).map (.int .i64)) ∧ Below w.heap.size w wr ∧ (∀ k', Value.ownBlock (.slice ea k ec) = some k' → w.heap.size + 1 < k')) (fun i _ => n - (intOf i).toNat)
  case atStart => exact ⟨0, none, 0, Nat.zero_le _, rfl, HA, HB, World.ownsRow_nil _ _ _ _, hB0, by simp [Value.ownBlock]⟩
  case round =>
    obtain ⟨k, ea, ec, hk, rfl, h1, h2, hown, hB, hob⟩ := hrel
    have hsz := h2.lt
    clear HA HB hB0
    by_cases hlt : k < n
    · have c1 := h2.cell (o := 1) rfl
      go_wp2_with (at_builtin; refine wpList_app1 rfl (.tmp 12) (.tmp 13) 23 rfl 3 (.int .i64 0) 8 Try.underlying23 info3 rfl (by decide) ea k ec _ rfl (.int .i64 (-1)) _ wr rfl rfl hown _ rfl rfl rfl ?hby ?_)
      case hby => omega
      intro ea' ec' w2 own2 only2 fresh2
      have e1 := h1.only only2 (fun h => by have := hob _ h; omega)
      have e2 := h2.only only2 (fun h => by have := hob _ h; omega)
      have d1 := e2.cell (o := 1) rfl
      have g1 := e2.free 1
      have hob2 : ∀ k', Value.ownBlock (.slice ea' (k + 1) ec') = some k' → w.heap.size + 1 < k' := fun k' hk' => by
        rcases fresh2 k' hk' with h | h
        · exact hob k' h
        · omega
      have hB2 := hB.trans (only2.below (B := w.heap.size) hB.size (fun j _ hj => by have := hob j hj; omega))
      have F1 := Lib.hid (e1.set_ne (a := ⟨w.heap.size + 1, 1, none⟩) (by simp) (.slice ea' (k + 1) ec'))
      have F2 := Lib.hid (e2.set 1 (.slice ea' (k + 1) ec'))
      have F3 := Lib.hid (ownsRow_setCell_other own2 (a := ⟨w.heap.size + 1, 1, none⟩) (fun h => by have := hob2 _ h; simp at this) (.slice ea' (k + 1) ec'))
      have F4 := Lib.hid (hB2.setCell (p := ⟨w.heap.size + 1, 1, none⟩) (by simp) (.slice ea' (k + 1) ec'))
      clear own2 only2 fresh2 e1 e2 hB2 hown h1 h2 c1
      go_wp2_with fail
      go_roundw
      case rel =>
        refine ⟨k + 1, ea', ec', by omega, by go_num, F1.out, F2.out, ?_, F4.out, hob2⟩
        have := F3.out
        rw [List.replicate_succ', List.map_append]
        simpa using this
      case measure => simp [intOf]; omega
    · have : k = n := by omega
      subst this
      have c0 := h2.cell (o := 0) rfl
      have c1 := h2.cell (o := 1) rfl
      have r0 := h1.cell (o := 0) rfl
      have r1 := h1.cell (o := 1) rfl
      have g0 := h1.free 0
      have g1 := h1.free 1
      have HF := (h1.set 0 (.slice none 0 0)).set 1 (.slice ea k ec)
      have z0 := HF.cell (o := 0) rfl
      have z1 := HF.cell (o := 1) rfl
      have hn0 : ∀ k', Value.ownBlock (.slice ea k ec) = some k' → k' ≠ w.heap.size := fun k' h => by have := hob k' h; omega
      have F3 := Lib.hid (ownsRow_setCell_other (ownsRow_setCell_other hown (a := ⟨w.heap.size, 0, none⟩) (fun h => hn0 _ h rfl) (.slice none 0 0)) (a := ⟨w.heap.size, 1, none⟩) (fun h => hn0 _ h rfl) (.slice ea k ec))
      have F4 := Lib.hid ((hB.setCell (p := ⟨w.heap.size, 0, none⟩) (Nat.le_refl _) (.slice none 0 0)).setCell (p := ⟨w.heap.size, 1, none⟩) (Nat.le_refl _) (.slice ea k ec))
      clear HF hown
      go_wp2_with fail
      refine bodyPost_ret (v := .agg #[.slice none 0 0, .slice ea k ec]) (by simp [results, Try.results35, go_sem, z0, z1]) rfl ?_
      exact ⟨ea, ec, rfl, F3.out, F4.out, fun k' h => by have := hob k' h; omega⟩
end Go.Proofs.Ytdminbjenbbpaaa
