/- first: the first sequence. -/
import Derived.Test.YtdminbjenbbpaaaG12
namespace Go.Proofs.Ytdminbjenbbpaaa
open Go.RowKit
/-- What first leaves. -/
def FirstPost (w : World) (L : List Nat) : Ending → World → Prop := fun e w' =>
  ∃ sa cap, e = .returned (.tuple #[.slice sa L.length cap, .bool true]) ∧ w'.ownsRow 0 3 1 (.slice sa L.length cap) L.length (L.map fun (n : Nat) => Value.int .i64 (n : Int)) ∧ Below w.heap.size w w' ∧
    (∀ k', Value.ownBlock (.slice sa L.length cap) = some k' → w.heap.size ≤ k')
theorem own_zero (w : World) (n : Nat) (z : Value) (hn : n ≤ maxLen) : (w.alloc (.cells (Array.replicate n z) 3)).ownsRow 0 3 1 (.slice (some ⟨w.heap.size, 0, none⟩) 0 n) 0 [] := by
  refine ⟨by simp, .inr ⟨w.heap.size, n, _, rfl, Nat.zero_le _, heap_alloc_new, Nat.zero_le _, hn, by simp, ?_⟩⟩
  simp
theorem make0 {P : Program} (t e : TypeId) (z : Value) (bytes : Nat) (ht : P.underlying t = some (.slice e)) (hi : (P.info? e).map (fun i => (i.zero, i.size, i.bytes)) = some (some z, 1, bytes)) (hz : z.cells = #[z])
    (n : Nat) (hb : n * bytes ≤ 281474976710656) (hn : n ≤ 9223372036854775807) (w : World) :
    (Instr.makeSlice t (.int .i64 0) (.int .i64 n)).run P w = .ok (.slice (some ⟨w.heap.size, 0, none⟩) 0 n) (w.alloc (.cells (Array.replicate n z) e)) := by
  obtain ⟨i, h1, h2, h3, h4⟩ := info_parts hi
  have hb' : (i.bytes : Int) * (n : Int) ≤ 281474976710656 := by
    have h : ((i.bytes * n : Nat) : Int) ≤ 281474976710656 := by rw [h4, Nat.mul_comm]; omega
    rwa [Int.natCast_mul] at h
  have := run_make (P := P) w t e i z ht h1 h2 .i64 .i64 0 n (Int.le_refl _) (by omega) hb' (by omega)
  simp only [Int.toNat_natCast, h3, Nat.mul_one, hz] at this
  rw [this]
  have e : madeCells #[z] n = Array.replicate n z := by
    apply Array.ext'
    rw [toList_madeCells_one, Array.toList_replicate]
  rw [e]; rfl
def sz (l : List Int) : Nat → Nat := fun i => (l.getD i 0).toNat
theorem sz_bound (l : List Int) (h : ∀ s ∈ l, s ≤ 1000) : ∀ k, k ≤ l.length → sumTo (sz l) k ≤ 1000 * k
  | 0, _ => Nat.zero_le _
  | k + 1, hk => by
    have h1 := sz_bound l h k (by omega)
    have h2 := h (l.getD k 0) (by rw [List.getD_eq_getElem?_getD, List.getElem?_eq_getElem (by omega)]; exact List.getElem_mem (by omega))
    show sumTo (sz l) k + sz l k ≤ _
    have h3 : sz l k ≤ 1000 := by unfold sz; omega
    omega
set_option maxHeartbeats 2000000 in
set_option maxRecDepth 100000 in
theorem first_any (l : List Int) (v : Value) (w : World) (hv : Rd w v l.length (l.map (Value.int .i64))) (hl : l.length ≤ 64) (hs : ∀ s ∈ l, -1000 ≤ s ∧ s ≤ 1000) :
    Calls Try.prog 45 #[v] w (FirstPost w (firstL (sz l) l.length)) := by
  have hbd := sz_bound l (fun s h => (hs s h).2)
  generalize hpost : FirstPost w (firstL (sz l) l.length) = post
  obtain ⟨va, vc, rfl, hrd⟩ := hv
  have hv : Rd w (.slice va l.length vc) l.length (l.map (Value.int .i64)) := ⟨va, vc, rfl, hrd⟩
  replace hbd := Lib.hid hbd
  replace hs := Lib.hid hs
  replace hv := Lib.hid hv
  replace hl := Lib.hid hl
  replace hpost := Lib.hid hpost
  clear hrd
  go_enter Try.func45, Try.ntmps45
  go_wp2_with fail
  go_loopw [12, 4] (fun i tv wr => ∃ k : Nat, k ≤ l.length ∧ i = .int .i64 (k : Int) ∧ tv = .int .i64 ((sumTo (sz l) k : Nat) : Int) ∧ wr = w) (fun i _ _ => l.length - (intOf i).toNat)
  case atStart => exact ⟨0, Nat.zero_le _, rfl, rfl, rfl⟩
  case round =>
    obtain ⟨k, hk, rfl, rfl, hwr⟩ := hrel
    replace hwr := hwr.symm
    subst hwr
    by_cases hlt : k < l.length
    · have hkI : (k : Int) < (l.length : Int) := by omega
      have hkN : decide (k < l.length) = true := decide_eq_true hlt
      have hk0 : (0 : Int) ≤ (k : Int) := by omega
      have hll := hl.out
      obtain ⟨bl, ol, cl, ea, fa⟩ := hv.out.cells (by omega)
      simp only [Value.slice.injEq, true_and] at ea
      obtain ⟨rfl, ea2⟩ := ea
      replace ea2 := Lib.hid ea2
      have ck : w.cell? ⟨bl, ol + k, none⟩ = some (.int .i64 (l.getD k 0)) := fa _ _ (by rw [List.getElem?_map, List.getElem?_eq_getElem hlt, List.getD_eq_getElem?_getD, List.getElem?_eq_getElem hlt]; rfl)
      have hsk := hs.out (l.getD k 0) (by rw [List.getD_eq_getElem?_getD, List.getElem?_eq_getElem hlt]; exact List.getElem_mem hlt)
      have hb1 := hbd.out k hk
      have hnx : sumTo (sz l) (k + 1) = sumTo (sz l) k + (l.getD k 0).toNat := rfl
      generalize l.getD k 0 = s at *
      generalize sumTo (sz l) k = t at *
      obtain ⟨n, hn⟩ : ∃ n, n = s.toNat := ⟨_, rfl⟩
      rw [← hn] at hnx
      have hg : decide ((2147483647 : Int) - (t : Int) < s) = false := decide_eq_false (by omega)
      have hm1 : max s 0 = (n : Int) := by omega
      have hm2 : (if s < 0 then (0 : Int) else s) = (n : Int) := by by_cases h : s < 0 <;> simp [h] <;> omega
      have hm3 : (if (0 : Int) < s then s else 0) = (n : Int) := by by_cases h : (0 : Int) < s <;> simp [h] <;> omega
      replace hnx := Lib.hid hnx
      replace hn := Lib.hid hn
      clear fa
      go_wp2_with fail
      go_wp2_with fail
      refine ⟨⟨k + 1, by omega, rfl, ?_, trivial⟩, by simp [intOf]; omega⟩
      rw [hnx.out]; rfl
    · obtain rfl : k = l.length := by omega
      have hb1 := hbd.out _ hk
      have hll := hl.out
      have hT : sumTo (sz l) l.length ≤ 64000 := by omega
      have hmk := fun wx => make0 (P := Try.prog) 23 3 (.int .i64 0) 8 Try.underlying23 info3 rfl (sumTo (sz l) l.length) (by omega) (by omega) wx
      have hown0 := own_zero w (sumTo (sz l) l.length) (.int .i64 0) (by unfold maxLen; omega)
      have hB0 : Below w.heap.size w (w.alloc (.cells (Array.replicate (sumTo (sz l) l.length) (.int .i64 0)) 3)) := (Below.refl _ _).alloc (Nat.le_refl _) _
      generalize sumTo (sz l) l.length = t at *
      replace hmk := Lib.hid hmk
      replace hown0 := Lib.hid hown0
      replace hB0 := Lib.hid hB0
      go_wp2_with fail
      try (go_simp)
      try (rw [hmk.out])
      try (go_wp2_with fail)
      clear hmk
      generalize hL : sz l = cs at *
      go_loopw [29, 7] (fun i pv wz => ∃ (k : Nat) (sa : Option Addr) (cap : Nat), k ≤ l.length ∧ i = .int .i64 (k : Int) ∧ pv = .slice sa (firstL cs k).length cap ∧
        wz.ownsRow 0 3 1 (.slice sa (firstL cs k).length cap) (firstL cs k).length ((firstL cs k).map fun (n : Nat) => Value.int .i64 (n : Int)) ∧ Below w.heap.size w wz ∧
        (∀ k', Value.ownBlock (.slice sa (firstL cs k).length cap) = some k' → w.heap.size ≤ k')) (fun i _ _ => l.length - (intOf i).toNat)
      case atStart => exact ⟨0, some ⟨w.heap.size, 0, none⟩, t, Nat.zero_le _, rfl, rfl, hown0.out, hB0.out, by intro k' hk'; cases hk'; exact Nat.le_refl _⟩
      case round =>
        obtain ⟨k, sa, cap, hk, rfl, rfl, hown, hB, hob⟩ := hrel
        by_cases hlt : k < l.length
        · have hkI : (k : Int) < (l.length : Int) := by omega
          have hkN : decide (k < l.length) = true := decide_eq_true hlt
          have hk0 : (0 : Int) ≤ (k : Int) := by omega
          obtain ⟨bl, ol, cl, ea, fa⟩ := hv.out.cells (by omega)
          simp only [Value.slice.injEq, true_and] at ea
          obtain ⟨rfl, ea2⟩ := ea
          replace ea2 := Lib.hid ea2
          have ck0 : w.cell? ⟨bl, ol + k, none⟩ = some (.int .i64 (l.getD k 0)) := fa _ _ (by rw [List.getElem?_map, List.getElem?_eq_getElem hlt, List.getD_eq_getElem?_getD, List.getElem?_eq_getElem hlt]; rfl)
          have ck : wr.cell? ⟨bl, ol + k, none⟩ = some (.int .i64 (l.getD k 0)) := (hB.cell (World.block_lt_of_cell? _ _ ck0)).trans ck0
          have hsk := hs.out (l.getD k 0) (by rw [List.getD_eq_getElem?_getD, List.getElem?_eq_getElem hlt]; exact List.getElem_mem hlt)
          have hck : cs k = (l.getD k 0).toNat := by rw [← hL]; rfl
          have hfl : firstL cs (k + 1) = firstL cs k ++ List.replicate (cs k) k := rfl
          generalize l.getD k 0 = s at *
          have hFl := Lib.hid (show (firstL cs k).length ≤ 64000 by rw [first_len]; have := hbd.out k hk; omega)
          generalize firstL cs k = F at *
          obtain ⟨n, hn⟩ : ∃ n, n = s.toNat := ⟨_, rfl⟩
          rw [← hn] at hck
          rw [hck] at hfl
          have hm1 : max s 0 = (n : Int) := by omega
          have hm2 : (if s < 0 then (0 : Int) else s) = (n : Int) := by by_cases h : s < 0 <;> simp [h] <;> omega
          have hm3 : (if (0 : Int) < s then s else 0) = (n : Int) := by by_cases h : (0 : Int) < s <;> simp [h] <;> omega
          have hnb : n ≤ 1000 := by omega
          replace hn := Lib.hid hn
          replace hfl := Lib.hid hfl
          replace hck := Lib.hid hck
          replace hown := Lib.hid hown
          replace hB := Lib.hid hB
          replace hob := Lib.hid hob
          clear fa ck0 hown0 hB0
          go_wp2_with fail
          clear ck
          have hF : F.length + n ≤ 64000 + 1000 := by have := hFl.out; omega
          go_loopw [36, 7] (fun i pv wz => ∃ (j : Nat) (m : Nat) (sa : Option Addr) (cap : Nat), j ≤ n ∧ m = F.length + j ∧ i = .int .i64 (j : Int) ∧ pv = .slice sa m cap ∧
            wz.ownsRow 0 3 1 (.slice sa m cap) m ((F ++ List.replicate j k).map fun (n : Nat) => Value.int .i64 (n : Int)) ∧ Below w.heap.size w wz ∧
            (∀ k', Value.ownBlock (.slice sa m cap) = some k' → w.heap.size ≤ k')) (fun i _ _ => n - (intOf i).toNat)
          case atStart => exact ⟨0, F.length, sa, cap, Nat.zero_le _, rfl, rfl, rfl, by rw [List.replicate_zero, List.append_nil]; exact hown.out, hB.out, hob.out⟩
          case round =>
            obtain ⟨j, m, sa, cap, hj, hm, rfl, rfl, hown, hB, hob⟩ := hrel
            have hsz : w.heap.size ≤ wr.heap.size := hB.size
            have hmb : m ≤ 65000 := by omega
            replace hm := Lib.hid hm
            by_cases hlt2 : j < n
            · have hjN : decide (j < n) = true := decide_eq_true hlt2
              replace hB := Lib.hid hB
              replace hob := Lib.hid hob
              go_wp2_with (at_builtin; refine wpList_app1 rfl (.tmp 38) (.tmp 40) 23 rfl 3 (.int .i64 0) 8 Try.underlying23 info3 rfl (by decide) sa m cap _ rfl (.int .i64 (k : Int)) _ wr rfl rfl hown _ rfl rfl rfl ?hby ?_)
              case hby => omega
              intro sa' cap' w2 own2 only2 fresh2
              have hob2 : ∀ k', Value.ownBlock (.slice sa' (m + 1) cap') = some k' → w.heap.size ≤ k' := fun k' hk' => by
                rcases fresh2 k' hk' with h | h
                · exact hob.out k' h
                · omega
              have hB2 := hB.out.trans (only2.below (B := w.heap.size) hsz (fun j _ hj => hob.out j hj))
              replace own2 := Lib.hid own2
              replace hob2 := Lib.hid hob2
              replace hB2 := Lib.hid hB2
              clear only2 fresh2 hown
              go_wp2_with fail
              refine ⟨⟨j + 1, m + 1, sa', cap', by omega, by have := hm.out; omega, rfl, rfl, ?_, hB2.out, hob2.out⟩, by simp [intOf]; omega⟩
              have := own2.out
              rw [List.replicate_succ', List.map_append, List.map_append, List.map_replicate]
              exact this
            · obtain rfl : j = n := by omega
              have hjN : decide (j < j) = false := decide_eq_false (by omega)
              replace hB := Lib.hid hB
              replace hob := Lib.hid hob
              replace hown := Lib.hid hown
              go_wp2_with fail
              have hLen : (firstL cs (k + 1)).length = m := by rw [hfl.out, List.length_append, List.length_replicate, hm.out]
              refine ⟨⟨k + 1, sa, cap, by omega, rfl, by rw [hLen], ?_, hB.out, by rw [hLen]; exact hob.out⟩, by simp [intOf]; omega⟩
              rw [hLen, hfl.out]; exact hown.out
        · obtain rfl : k = l.length := by omega
          have hkN : decide (l.length < l.length) = false := decide_eq_false (by omega)
          replace hB := Lib.hid hB
          replace hob := Lib.hid hob
          replace hown := Lib.hid hown
          go_wp2_with fail
          rw [← hpost.out]
          exact ⟨sa, cap, rfl, hown.out, hB.out, hob.out⟩
end Go.Proofs.Ytdminbjenbbpaaa
