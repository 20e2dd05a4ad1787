/- The reference's bases, Count, Digits, At. -/
import Derived.Test.YtikjpklbbjmioaaK6
import Derived.Test.YtikjpklbbjmioaaE11
namespace Go.Proofs.Ytikjpklbbjmioaa
open Go.RowKit Go.Maps
variable {w : World} {F : Own} {o h T : Nat} {R : Dv}

def basesL (R : Dv) (ds : List Nat) : List Nat := ds.map (baseL R)
theorem basesL_snoc (R : Dv) (ds : List Nat) (l : Nat) : basesL R (ds ++ [l]) = basesL R ds ++ [baseL R l] := by unfold basesL; rw [List.map_append]; rfl
theorem u64s_snoc (l : List Nat) (n : Nat) : u64s (l ++ [n]) = u64s l ++ [.int .u64 (n : Int)] := by simp [u64s]
def NewU64 (w : World) (xs : List Nat) (e : Ending) (w' : World) : Prop := ∃ a c, e = .returned (.slice a xs.length c) ∧ Grow w w' 22 a xs.length c (u64s xs)
set_option maxHeartbeats 4000000 in
set_option maxRecDepth 100000 in
theorem rbases_any (hr : RefSt w F o h T R) : Calls Try.prog 53 #[.pointer (some ⟨h, 0, none⟩)] w (NewU64 w (basesL R (dirtyL R))) := by
  generalize hpost : NewU64 w (basesL R (dirtyL R)) = post
  have hn2 := hr.ok.n2
  have ht := hr.ok.t
  have hB0 := (Below.refl _ w).alloc (Nat.le_refl _) (.cells #[] 22)
  have hdir := rdirty_any (hr.below hB0)
  have hdl : (dirtyL R).length ≤ R.lines.length := dirtyTo_len R R.lines.length
  have hdm : ∀ k, k < (dirtyL R).length → (dirtyL R)[k]? = some ((dirtyL R).getD k 0) ∧ (dirtyL R).getD k 0 < R.lines.length ∧ (R.line ((dirtyL R).getD k 0)).hist.length ≤ 100000 := fun k hk => by
    have h1 := get_of_lt 0 hk
    have h2 := (dirtyTo_mem (List.mem_of_getElem? h1)).1
    have h3 := (hr.ok.ln _ h2).hl
    exact ⟨h1, h2, by omega⟩
  obtain ⟨lb, lc, ns, h1, h2, h3, _⟩ := hr.ex
  have c := h1.cell (refCells_lines lb lc ns R)
  have hlt1 := h1.lt
  have h0 : Grow w (w.alloc (.cells #[] 22)) 22 (some ⟨w.heap.size, 0, none⟩) (basesL R ((dirtyL R).take 0)).length 0 (u64s (basesL R ((dirtyL R).take 0))) := Grow.empty w 22
  have hlines := fun (i : Nat) (hi : i < R.lines.length) => h2.cells hi
  have hlb : lb < w.heap.size := by obtain ⟨cs, _, x, _⟩ := h2; exact ownsRow_lt x (k := lb) rfl
  have hbl : ∀ k, k ≤ (dirtyL R).length → (basesL R ((dirtyL R).take k)).length = k := fun k hk => by unfold basesL; rw [List.length_map, List.length_take]; omega
  generalize dirtyL R = ds at *
  have htk := fun k (hk : k < ds.length) => take_getD ds k 0 hk
  replace hpost := Lib.hid hpost
  replace h0 := Lib.hid h0
  replace hdir := Lib.hid hdir
  replace hdm := Lib.hid hdm
  replace htk := Lib.hid htk
  replace hbl := Lib.hid hbl
  clear hr h2 hB0
  go_enter Try.func53, Try.ntmps53
  go_wp2_with (refine hdir.out.mono ?_; rintro e w2 ⟨da, dc, rfl, hd2, B2, hdf⟩; have hG2 := h0.out.below B2; have hl2 := Rd.of_own hd2; have hdlt : ∀ j, Value.ownBlock (.slice da ds.length dc) = some j → w.heap.size < j ∧ j < w2.heap.size := (fun j hj => by have h1 := hdf j hj; have h2 := ownsRow_lt hd2 hj; simp only [World.size_alloc] at h1; omega); replace hdlt := Lib.hid hdlt; replace hG2 := Lib.hid hG2; replace hl2 := Lib.hid hl2; replace B2 := Lib.hid B2; clear hd2)
  go_loopw [3, 5, 10] (fun v _ i wr => ∃ (k : Nat) (a : Option Addr) (c : Nat), k ≤ ds.length ∧ i = .int .i64 (k : Int) ∧ v = .slice a k c ∧ Grow w wr 22 a k c (u64s (basesL R (ds.take k))) ∧ Rd wr (.slice da ds.length dc) ds.length (nats ds) ∧ w2.heap.size ≤ wr.heap.size ∧ (∀ j, Value.ownBlock (.slice a k c) = some j → j = w.heap.size ∨ w2.heap.size ≤ j)) (fun _ _ i _ => ds.length - (intOf i).toNat)
  case atStart =>
    have := hG2.out
    exact ⟨0, _, 0, Nat.zero_le _, rfl, rfl, this, hl2.out, Nat.le_refl _, fun j hj => by simp [Value.ownBlock] at hj; omega⟩
  case round =>
    clear hG2 hl2 h0
    obtain ⟨k, a, cc, hk, rfl, rfl, hG, hL, hsz, hfr⟩ := hrel
    by_cases hlt : k < ds.length
    · have hkI : decide ((k : Int) < (ds.length : Int)) = true := decide_eq_true (by omega)
      have hkN : decide (k < ds.length) = true := decide_eq_true hlt
      have hk0 : (0 : Int) ≤ (k : Int) := by omega
      have hkl : (k : Int) < (ds.length : Int) := by omega
      obtain ⟨hat, hdN, hhl⟩ := hdm.out k hlt
      obtain ⟨bl, ol, cl, ea, fa⟩ := hL.cells (by omega)
      simp only [Value.slice.injEq, true_and] at ea
      obtain ⟨rfl, ea2⟩ := ea
      replace ea2 := Lib.hid ea2
      have ck := fa _ _ (nats_get _ _ _ hat)
      have htk1 := htk.out k hlt
      obtain ⟨va, vc, hlc, _⟩ := hlines _ hdN
      obtain ⟨c0, c1, c2, c3, c4, c5, c6, c7, c8, c9⟩ := hlc.only (Only.of_below hG.b) (Nat.not_le.2 hlb)
      have chr := (Only.of_below hG.b).cell c (by show ¬ w.heap.size ≤ h; omega)
      have hbb : baseL R (ds.getD k 0) = (R.line (ds.getD k 0)).hist.length + 1 := rfl
      generalize ds.getD k 0 = d at *
      generalize hHl : (R.line d).hist.length = hlen at *
      have hdI : (d : Int) < (R.lines.length : Int) := by omega
      have hd0 : (0 : Int) ≤ (d : Int) := by omega
      have hby : (k + 1) * 8 ≤ 140737488355328 := by omega
      have hown := hG.alloc (.cells #[.int .u64 ((hlen : Int) + 1)] 22)
      replace hHl := Lib.hid hHl
      replace hbb := Lib.hid hbb
      replace htk1 := Lib.hid htk1
      replace hat := Lib.hid hat
      replace hL := Lib.hid hL
      clear fa hlc c0 c1 c2 c3 c4 c5 c6 c7 c9
      replace hfr := Lib.hid hfr
      go_wp2_with (at_builtin; refine wpList_app1 rfl (.tmp 14) (.tmp 26) 57 rfl 22 (.int .u64 0) 8 Try.underlying57 infoU64 rfl (by decide) a k cc (u64s (basesL R (ds.take k))) rfl (.int .u64 ((hlen : Int) + 1)) _ wr rfl rfl hG.own _ rfl rfl (by simp [Value.oneCell']) hby ?_; intro sa cap w1 own1 only1 fresh1)
      have hG1 := hG.app own1 only1 fresh1
      have hbc : ((baseL R d : Nat) : Int) = (hlen : Int) + 1 := by rw [hbb.out]; omega
      rw [← hbc, ← u64s_snoc, ← basesL_snoc, ← htk1.out] at hG1
      have hs1 := only1.size
      have hL1 := hL.out.only only1 (fun j hj e => by
        have h5 := hdlt.out j hj
        rcases hfr.out j e with h6 | h6 <;> omega)
      exact ⟨⟨k + 1, sa, cap, by omega, by go_num, rfl, hG1, hL1, by omega, fun j hj => by
        rcases fresh1 j hj with h6 | h6
        · exact hfr.out j h6
        · right; omega⟩, by simp [intOf]; omega⟩
    · obtain rfl : k = ds.length := by omega
      have hkI : decide ((ds.length : Int) < (ds.length : Int)) = false := decide_eq_false (by omega)
      have hkN : decide (ds.length < ds.length) = false := decide_eq_false (by omega)
      have hb := hbl.out ds.length (Nat.le_refl _)
      rw [List.take_length] at hb hG
      have hx : post (.returned (.slice a ds.length cc)) wr := by rw [← hpost.out]; exact ⟨a, cc, by rw [hb], by rw [hb]; exact hG⟩
      replace hx := Lib.hid hx
      clear hG hL hb hfr
      go_wp2_with fail
      exact hx.out
end Go.Proofs.Ytikjpklbbjmioaa
