/- The reference's First: the first sequence. -/
import Derived.Test.YtdminbjenbbpaaaG13
namespace Go.Proofs.Ytdminbjenbbpaaa
open Go.RowKit
set_option maxHeartbeats 2000000 in
set_option maxRecDepth 100000 in
theorem reffirst_any (l : List Int) (v : Value) (w : World) (hv : Rd w v l.length (l.map (Value.int .i64))) (hl : l.length ≤ 64) (hs : ∀ s ∈ l, 0 ≤ s ∧ s ≤ 1000) :
    Calls Try.prog 29 #[v] w fun e w' => ∃ sa cap, e = .returned (.slice sa (firstL (sz l) l.length).length cap) ∧ w'.ownsRow 0 3 1 (.slice sa (firstL (sz l) l.length).length cap) (firstL (sz l) l.length).length ((firstL (sz l) l.length).map fun (n : Nat) => Value.int .i64 (n : Int)) ∧ Below w.heap.size w w' ∧
    (∀ k', Value.ownBlock (.slice sa (firstL (sz l) l.length).length cap) = some k' → w.heap.size ≤ k') := by
  have hbd := sz_bound l (fun s h => (hs s h).2)
  generalize hpost : (fun (e : Ending) w' => ∃ sa cap, e = .returned (.slice sa (firstL (sz l) l.length).length cap) ∧ World.ownsRow w' 0 3 1 (.slice sa (firstL (sz l) l.length).length cap) (firstL (sz l) l.length).length ((firstL (sz l) l.length).map fun (n : Nat) => Value.int .i64 (n : Int)) ∧ Below w.heap.size w w' ∧
    (∀ k', Value.ownBlock (.slice sa (firstL (sz l) l.length).length cap) = some k' → w.heap.size ≤ k')) = post
  obtain ⟨va, vc, rfl, hrd⟩ := hv
  have hv : Rd w (.slice va l.length vc) l.length (l.map (Value.int .i64)) := ⟨va, vc, rfl, hrd⟩
  replace hbd := Lib.hid hbd
  replace hs := Lib.hid hs
  replace hv := Lib.hid hv
  replace hl := Lib.hid hl
  replace hpost := Lib.hid hpost
  clear hrd
  go_enter Try.func29, Try.ntmps29
  go_wp2_with fail
  generalize hL : sz l = cs at *
  go_loopw [3, 4] (fun pv i wz => ∃ (k : Nat) (sa : Option Addr) (cap : Nat), k ≤ l.length ∧ i = .int .i64 (k : Int) ∧ pv = .slice sa (firstL cs k).length cap ∧
    wz.ownsRow 0 3 1 (.slice sa (firstL cs k).length cap) (firstL cs k).length ((firstL cs k).map fun (n : Nat) => Value.int .i64 (n : Int)) ∧ Below w.heap.size w wz ∧
    (∀ k', Value.ownBlock (.slice sa (firstL cs k).length cap) = some k' → w.heap.size ≤ k')) (fun _ i _ => l.length - (intOf i).toNat)
  case atStart => exact ⟨0, none, 0, Nat.zero_le _, rfl, rfl, World.ownsRow_nil _ _ _ _, Below.refl _ _, by simp [Value.ownBlock]⟩
  case round =>
    obtain ⟨k, sa, cap, hk, rfl, rfl, hown, hB, hob⟩ := hrel
    by_cases hlt : k < l.length
    · have hkI : (k : Int) < (l.length : Int) := by omega
      have hkN : decide (k < l.length) = true := decide_eq_true hlt
      have hk0 : (0 : Int) ≤ (k : Int) := by omega
      have hll := hl.out
      obtain ⟨bl, ol, cl, ea, fa⟩ := hv.out.cells (by omega)
      simp only [Value.slice.injEq, true_and] at ea
      obtain ⟨rfl, ea2⟩ := ea
      replace ea2 := Lib.hid ea2
      have ck0 : w.cell? ⟨bl, ol + k, none⟩ = some (.int .i64 (l.getD k 0)) := fa _ _ (by rw [List.getElem?_map, List.getElem?_eq_getElem hlt, List.getD_eq_getElem?_getD, List.getElem?_eq_getElem hlt]; rfl)
      have hsk := hs.out (l.getD k 0) (by rw [List.getD_eq_getElem?_getD, List.getElem?_eq_getElem hlt]; exact List.getElem_mem hlt)
      have hck : cs k = (l.getD k 0).toNat := by rw [← hL]; rfl
      have hfl : firstL cs (k + 1) = firstL cs k ++ List.replicate (cs k) k := rfl
      generalize l.getD k 0 = s at *
      have hFl := Lib.hid (show (firstL cs k).length ≤ 64000 by rw [first_len]; have := hbd.out k hk; omega)
      generalize firstL cs k = F at *
      obtain ⟨n, hn⟩ : ∃ n : Nat, s = (n : Int) := ⟨s.toNat, by omega⟩
      subst hn
      have hck : cs k = n := by omega
      rw [hck] at hfl
      have hnb : n ≤ 1000 := by omega
      replace hfl := Lib.hid hfl
      replace hck := Lib.hid hck
      replace hown := Lib.hid hown
      replace hB := Lib.hid hB
      replace hob := Lib.hid hob
      clear fa
      go_wp2_with fail
      have hF : F.length + n ≤ 64000 + 1000 := by have := hFl.out; omega
      go_loopw [3, 5] (fun pv i wz => ∃ (j : Nat) (m : Nat) (sa : Option Addr) (cap : Nat), j ≤ n ∧ m = F.length + j ∧ i = .int .i64 (j : Int) ∧ pv = .slice sa m cap ∧
        wz.ownsRow 0 3 1 (.slice sa m cap) m ((F ++ List.replicate j k).map fun (n : Nat) => Value.int .i64 (n : Int)) ∧ Below w.heap.size w wz ∧
        (∀ k', Value.ownBlock (.slice sa m cap) = some k' → w.heap.size ≤ k')) (fun _ i _ => n - (intOf i).toNat)
      case atStart => exact ⟨0, F.length, sa, cap, Nat.zero_le _, rfl, rfl, rfl, by rw [List.replicate_zero, List.append_nil]; exact hown.out, hB.out, hob.out⟩
      case round =>
        obtain ⟨j, m, sa, cap, hj, hm, rfl, rfl, hown, hB, hob⟩ := hrel
        have hsz : w.heap.size ≤ wr.heap.size := hB.size
        have ck : wr.cell? ⟨bl, ol + k, none⟩ = some (.int .i64 (n : Int)) := (hB.cell (World.block_lt_of_cell? _ _ ck0)).trans ck0
        have hmb : m ≤ 65000 := by omega
        replace hm := Lib.hid hm
        by_cases hlt2 : j < n
        · have hjN : decide (j < n) = true := decide_eq_true hlt2
          have hjI : decide ((j : Int) < (n : Int)) = true := decide_eq_true (by omega)
          replace hB := Lib.hid hB
          replace hob := Lib.hid hob
          go_wp2_with (at_builtin; refine wpList_app1 rfl (.tmp 20) (.tmp 22) 23 rfl 3 (.int .i64 0) 8 Try.underlying23 info3 rfl (by decide) sa m cap _ rfl (.int .i64 (k : Int)) _ wr rfl rfl hown _ rfl rfl rfl ?hby ?_)
          case hby => omega
          intro sa' cap' w2 own2 only2 fresh2
          have hob2 : ∀ k', Value.ownBlock (.slice sa' (m + 1) cap') = some k' → w.heap.size ≤ k' := fun k' hk' => by
            rcases fresh2 k' hk' with h | h
            · exact hob.out k' h
            · omega
          have hB2 := hB.out.trans (only2.below (B := w.heap.size) hsz (fun j _ hj => hob.out j hj))
          replace own2 := Lib.hid own2
          replace hob2 := Lib.hid hob2
          replace hB2 := Lib.hid hB2
          clear only2 fresh2 hown
          go_wp2_with fail
          refine ⟨⟨j + 1, m + 1, sa', cap', by omega, by have := hm.out; omega, rfl, rfl, ?_, hB2.out, hob2.out⟩, by simp [intOf]; omega⟩
          have := own2.out
          rw [List.replicate_succ', List.map_append, List.map_append, List.map_replicate]
          exact this
        · obtain rfl : j = n := by omega
          have hjN : decide (j < j) = false := decide_eq_false (by omega)
          have hjI : decide ((j : Int) < (j : Int)) = false := decide_eq_false (by omega)
          replace hB := Lib.hid hB
          replace hob := Lib.hid hob
          replace hown := Lib.hid hown
          go_wp2_with fail
          have hLen : (firstL cs (k + 1)).length = m := by rw [hfl.out, List.length_append, List.length_replicate, hm.out]
          refine ⟨⟨k + 1, sa, cap, by omega, rfl, by rw [hLen], ?_, hB.out, by rw [hLen]; exact hob.out⟩, by simp [intOf]; omega⟩
          rw [hLen, hfl.out]; exact hown.out
    · obtain rfl : k = l.length := by omega
      have hkN : decide (l.length < l.length) = false := decide_eq_false (by omega)
      have hkI : decide ((l.length : Int) < (l.length : Int)) = false := decide_eq_false (by omega)
      replace hB := Lib.hid hB
      replace hob := Lib.hid hob
      replace hown := Lib.hid hown
      go_wp2_with fail
      rw [← hpost.out]
      exact ⟨sa, cap, rfl, hown.out, hB.out, hob.out⟩
end Go.Proofs.Ytdminbjenbbpaaa
