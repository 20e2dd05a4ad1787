/- The reference's bases, Count, Digits, At. The reference's Count. The reference's Digits and At. -/
import Derived.Test.YtikjpklbbjmioaaK6
import Derived.Test.YtikjpklbbjmioaaE11
/-! The reference's bases, Count, Digits, At. -/
namespace Go.Proofs.Ytikjpklbbjmioaa
open Go.RowKit Go.Maps
variable {w : World} {F : Own} {o h T : Nat} {R : Dv}

def basesL (R : Dv) (ds : List Nat) : List Nat := ds.map (baseL R)
theorem basesL_snoc (R : Dv) (ds : List Nat) (l : Nat) : basesL R (ds ++ [l]) = basesL R ds ++ [baseL R l] := by unfold basesL; rw [List.map_append]; rfl
theorem u64s_snoc (l : List Nat) (n : Nat) : u64s (l ++ [n]) = u64s l ++ [.int .u64 (n : Int)] := by simp [u64s]
def NewU64 (w : World) (xs : List Nat) (e : Ending) (w' : World) : Prop := ∃ a c, e = .returned (.slice a xs.length c) ∧ Grow w w' 22 a xs.length c (u64s xs)
set_option maxHeartbeats 4000000 in
set_option maxRecDepth 100000 in
theorem rbases_any (hr : RefSt w F o h T R) : Calls Try.prog 53 #[.pointer (some ⟨h, 0, none⟩)] w (NewU64 w (basesL R (dirtyL R))) := by
  generalize hpost : NewU64 w (basesL R (dirtyL R)) = post
  have hn2 := hr.ok.n2
  have ht := hr.ok.t
  have hB0 := (Below.refl _ w).alloc (Nat.le_refl _) (.cells #[] 22)
  have hdir := rdirty_any (hr.below hB0)
  have hdl : (dirtyL R).length ≤ R.lines.length := dirtyTo_len R R.lines.length
  have hdm : ∀ k, k < (dirtyL R).length → (dirtyL R)[k]? = some ((dirtyL R).getD k 0) ∧ (dirtyL R).getD k 0 < R.lines.length ∧ (R.line ((dirtyL R).getD k 0)).hist.length ≤ 100000 := fun k hk => by
    have h1 := get_of_lt 0 hk
    have h2 := (dirtyTo_mem (List.mem_of_getElem? h1)).1
    have h3 := (hr.ok.ln _ h2).hl
    exact ⟨h1, h2, by omega⟩
  obtain ⟨lb, lc, ns, h1, h2, h3, _⟩ := hr.ex
  have c := h1.cell (refCells_lines lb lc ns R)
  have hlt1 := h1.lt
  have h0 : Grow w (w.alloc (.cells #[] 22)) 22 (some ⟨w.heap.size, 0, none⟩) (basesL R ((dirtyL R).take 0)).length 0 (u64s (basesL R ((dirtyL R).take 0))) := Grow.empty w 22
  have hlines := fun (i : Nat) (hi : i < R.lines.length) => h2.cells hi
  have hlb : lb < w.heap.size := by obtain ⟨cs, _, x, _⟩ := h2; exact ownsRow_lt x (k := lb) rfl
  have hbl : ∀ k, k ≤ (dirtyL R).length → (basesL R ((dirtyL R).take k)).length = k := fun k hk => by unfold basesL; rw [List.length_map, List.length_take]; omega
  generalize dirtyL R = ds at *
  have htk := fun k (hk : k < ds.length) => take_getD ds k 0 hk
  replace hpost := Lib.hid hpost
  replace h0 := Lib.hid h0
  replace hdir := Lib.hid hdir
  replace hdm := Lib.hid hdm
  replace htk := Lib.hid htk
  replace hbl := Lib.hid hbl
  clear hr h2 hB0
  go_enter Try.func53, Try.ntmps53
  go_wp2_with (refine hdir.out.mono ?_; rintro e w2 ⟨da, dc, rfl, hd2, B2, hdf⟩; have hG2 := h0.out.below B2; have hl2 := Rd.of_own hd2; have hdlt : ∀ j, Value.ownBlock (.slice da ds.length dc) = some j → w.heap.size < j ∧ j < w2.heap.size := (fun j hj => by have h1 := hdf j hj; have h2 := ownsRow_lt hd2 hj; simp only [World.size_alloc] at h1; omega); replace hdlt := Lib.hid hdlt; replace hG2 := Lib.hid hG2; replace hl2 := Lib.hid hl2; replace B2 := Lib.hid B2; clear hd2)
  go_loopw [3, 5, 10] (fun v _ i wr => ∃ (k : Nat) (a : Option Addr) (c : Nat), k ≤ ds.length ∧ i = .int .i64 (k : Int) ∧ v = .slice a k c ∧ Grow w wr 22 a k c (u64s (basesL R (ds.take k))) ∧ Rd wr (.slice da ds.length dc) ds.length (nats ds) ∧ w2.heap.size ≤ wr.heap.size ∧ (∀ j, Value.ownBlock (.slice a k c) = some j → j = w.heap.size ∨ w2.heap.size ≤ j)) (fun _ _ i _ => ds.length - (intOf i).toNat)
  case atStart =>
    have := hG2.out
    exact ⟨0, _, 0, Nat.zero_le _, rfl, rfl, this, hl2.out, Nat.le_refl _, fun j hj => by simp [Value.ownBlock] at hj; omega⟩
  case round =>
    clear hG2 hl2 h0
    obtain ⟨k, a, cc, hk, rfl, rfl, hG, hL, hsz, hfr⟩ := hrel
    by_cases hlt : k < ds.length
    · have hkI : decide ((k : Int) < (ds.length : Int)) = true := decide_eq_true (by omega)
      have hkN : decide (k < ds.length) = true := decide_eq_true hlt
      have hk0 : (0 : Int) ≤ (k : Int) := by omega
      have hkl : (k : Int) < (ds.length : Int) := by omega
      obtain ⟨hat, hdN, hhl⟩ := hdm.out k hlt
      obtain ⟨bl, ol, cl, ea, fa⟩ := hL.cells (by omega)
      simp only [Value.slice.injEq, true_and] at ea
      obtain ⟨rfl, ea2⟩ := ea
      replace ea2 := Lib.hid ea2
      have ck := fa _ _ (nats_get _ _ _ hat)
      have htk1 := htk.out k hlt
      obtain ⟨va, vc, hlc, _⟩ := hlines _ hdN
      obtain ⟨c0, c1, c2, c3, c4, c5, c6, c7, c8, c9⟩ := hlc.only (Only.of_below hG.b) (Nat.not_le.2 hlb)
      have chr := (Only.of_below hG.b).cell c (by show ¬ w.heap.size ≤ h; omega)
      have hbb : baseL R (ds.getD k 0) = (R.line (ds.getD k 0)).hist.length + 1 := rfl
      generalize ds.getD k 0 = d at *
      generalize hHl : (R.line d).hist.length = hlen at *
      have hdI : (d : Int) < (R.lines.length : Int) := by omega
      have hd0 : (0 : Int) ≤ (d : Int) := by omega
      have hby : (k + 1) * 8 ≤ 140737488355328 := by omega
      have hown := hG.alloc (.cells #[.int .u64 ((hlen : Int) + 1)] 22)
      replace hHl := Lib.hid hHl
      replace hbb := Lib.hid hbb
      replace htk1 := Lib.hid htk1
      replace hat := Lib.hid hat
      replace hL := Lib.hid hL
      clear fa hlc c0 c1 c2 c3 c4 c5 c6 c7 c9
      replace hfr := Lib.hid hfr
      go_wp2_with (at_builtin; refine wpList_app1 rfl (.tmp 14) (.tmp 26) 57 rfl 22 (.int .u64 0) 8 Try.underlying57 infoU64 rfl (by decide) a k cc (u64s (basesL R (ds.take k))) rfl (.int .u64 ((hlen : Int) + 1)) _ wr rfl rfl hG.own _ rfl rfl (by simp [Value.oneCell']) hby ?_; intro sa cap w1 own1 only1 fresh1)
      have hG1 := hG.app own1 only1 fresh1
      have hbc : ((baseL R d : Nat) : Int) = (hlen : Int) + 1 := by rw [hbb.out]; omega
      rw [← hbc, ← u64s_snoc, ← basesL_snoc, ← htk1.out] at hG1
      have hs1 := only1.size
      have hL1 := hL.out.only only1 (fun j hj e => by
        have h5 := hdlt.out j hj
        rcases hfr.out j e with h6 | h6 <;> omega)
      exact ⟨⟨k + 1, sa, cap, by omega, by go_num, rfl, hG1, hL1, by omega, fun j hj => by
        rcases fresh1 j hj with h6 | h6
        · exact hfr.out j h6
        · right; omega⟩, by simp [intOf]; omega⟩
    · obtain rfl : k = ds.length := by omega
      have hkI : decide ((ds.length : Int) < (ds.length : Int)) = false := decide_eq_false (by omega)
      have hkN : decide (ds.length < ds.length) = false := decide_eq_false (by omega)
      have hb := hbl.out ds.length (Nat.le_refl _)
      rw [List.take_length] at hb hG
      have hx : post (.returned (.slice a ds.length cc)) wr := by rw [← hpost.out]; exact ⟨a, cc, by rw [hb], by rw [hb]; exact hG⟩
      replace hx := Lib.hid hx
      clear hG hL hb hfr
      go_wp2_with fail
      exact hx.out
end Go.Proofs.Ytikjpklbbjmioaa

/-! The reference's Count. -/
namespace Go.Proofs.Ytikjpklbbjmioaa
open Go.RowKit Go.Maps
variable {w : World} {F : Own} {o h T : Nat} {R : Dv}
theorem gt_div (n b t : Nat) (hb : 0 < b) : t / b < n ↔ t < n * b := by
  rw [Nat.div_lt_iff_lt_mul hb]
set_option maxHeartbeats 2000000 in
set_option maxRecDepth 100000 in
theorem rcount_any (hr : RefSt w F o h T R) : Calls Try.prog 20 #[.pointer (some ⟨h, 0, none⟩)] w (TotPost w (cntV R)) := by
  generalize hpost : TotPost w (cntV R) = post
  have hn2 := hr.ok.n2
  have ht := hr.ok.t
  have hbs := rbases_any hr
  have hdl : (dirtyL R).length ≤ R.lines.length := dirtyTo_len R R.lines.length
  have hdm : ∀ k, k < (dirtyL R).length → (basesL R (dirtyL R))[k]? = some (baseL R ((dirtyL R).getD k 0)) ∧ baseL R ((dirtyL R).getD k 0) ≤ 100001 ∧ 1 ≤ baseL R ((dirtyL R).getD k 0) := fun k hk => by
    have h1 := get_of_lt 0 hk
    have h2 := (dirtyTo_mem (List.mem_of_getElem? h1)).1
    have h3 := (hr.ok.ln _ h2).hl
    refine ⟨by unfold basesL; rw [List.getElem?_map, h1]; rfl, ?_, ?_⟩ <;> unfold baseL <;> omega
  have hpm := prodL_mono R (dirtyL R)
  have hpt := prodL_take R (dirtyL R)
  have hpp := prodL_pos R
  have hbl : (basesL R (dirtyL R)).length = (dirtyL R).length := by unfold basesL; rw [List.length_map]
  have hfin : ∀ w', Below w.heap.size w w' → (prodL R (dirtyL R) ≤ 4611686018427387904 → post (.returned (.tuple #[.int .u64 ((prodL R (dirtyL R) : Nat) : Int), .bool true])) w') ∧ (4611686018427387904 < prodL R (dirtyL R) → post (.returned (.tuple #[.int .u64 4611686018427387904, .bool false])) w') := fun w' h => by
    rw [← hpost]
    refine ⟨fun h1 => ?_, fun h1 => ?_⟩
    · unfold cntV; rw [if_pos h1]; exact ⟨rfl, h⟩
    · unfold cntV; rw [if_neg (by omega)]; exact ⟨rfl, h⟩
  clear hpost hr
  unfold NewU64 at hbs
  rw [hbl] at hbs
  generalize basesL R (dirtyL R) = bs at *
  generalize dirtyL R = ds at *
  replace hfin := Lib.hid hfin
  replace hpm := Lib.hid hpm
  replace hpt := Lib.hid hpt
  replace hpp := Lib.hid hpp
  replace hdm := Lib.hid hdm
  replace hbs := Lib.hid hbs
  go_enter Try.func20, Try.ntmps20
  go_wp2_with (refine hbs.out.mono ?_; rintro e w2 ⟨ba, bc, rfl, hG⟩; have hl2 := Rd.of_own hG.own; have B2 := hG.b; replace B2 := Lib.hid B2; replace hl2 := Lib.hid hl2; clear hG)
  go_loopw [4, 6, 10] (fun v _ i wr => ∃ k : Nat, k ≤ ds.length ∧ i = .int .i64 (k : Int) ∧ v = .int .u64 ((prodL R (ds.take k) : Nat) : Int) ∧ prodL R (ds.take k) ≤ 4611686018427387904 ∧ wr = w2) (fun _ _ i _ => ds.length - (intOf i).toNat)
  case atStart => exact ⟨0, Nat.zero_le _, rfl, rfl, by rw [List.take_zero]; show 1 ≤ 4611686018427387904; omega, rfl⟩
  case round =>
    obtain ⟨k, hk, rfl, rfl, hle, hwr⟩ := hrel
    replace hwr := hwr.symm
    subst hwr
    by_cases hlt : k < ds.length
    · have hkI : decide ((k : Int) < (ds.length : Int)) = true := decide_eq_true (by omega)
      have hkN : decide (k < ds.length) = true := decide_eq_true hlt
      have hk0 : (0 : Int) ≤ (k : Int) := by omega
      have hkl : (k : Int) < (ds.length : Int) := by omega
      obtain ⟨hat, hb1, hb2⟩ := hdm.out k hlt
      obtain ⟨bl, ol, cl, ea, fa⟩ := hl2.out.cells (by omega)
      simp only [Value.slice.injEq, true_and] at ea
      obtain ⟨rfl, ea2⟩ := ea
      replace ea2 := Lib.hid ea2
      have ck := fa _ _ (u64s_get _ _ _ hat)
      have hpk := hpt.out k hlt
      have hmn := hpm.out (k + 1)
      generalize baseL R (ds.getD k 0) = b at *
      generalize hP : prodL R (ds.take k) = P at *
      have hgd := gt_div P b 4611686018427387904 (by omega)
      have hqle := Nat.div_le_self 4611686018427387904 b
      obtain ⟨qq, hqq⟩ : ∃ qq, qq = 4611686018427387904 / b := ⟨_, rfl⟩
      have hcd : (4611686018427387904 : Int) / (b : Int) = (qq : Int) := by rw [hqq]; simp
      rw [← hqq] at hgd hqle
      replace hqq := Lib.hid hqq
      have hq : (4611686018427387904 : Int) / (b : Int) ≤ 4611686018427387904 ∧ 0 ≤ (4611686018427387904 : Int) / (b : Int) := by rw [hcd]; omega
      have e3 : ((b : Int) == 0) = false := beq_eq_false_iff_ne.2 (by omega)
      have e4 : ¬ ((b : Int) = 0) := by omega
      replace hP := Lib.hid hP
      replace hpk := Lib.hid hpk
      replace hmn := Lib.hid hmn
      replace hat := Lib.hid hat
      clear fa
      by_cases hc : 4611686018427387904 < P * b
      · have g1 : decide ((4611686018427387904 : Int) / (b : Int) < (P : Int)) = true := decide_eq_true (by rw [hcd]; have := hgd.2 hc; omega)
        have hx := Lib.hid ((hfin.out w2 B2.out).2 (by have := hmn.out; rw [hpk.out] at this; omega))
        replace hgd := Lib.hid hgd
        replace hcd := Lib.hid hcd
        replace hc := Lib.hid hc
        go_wp2_with fail
        first | exact hx.out | (go_ret; exact hx.out)
      · have g1 : decide ((4611686018427387904 : Int) / (b : Int) < (P : Int)) = false := decide_eq_false (by rw [hcd]; have := mt hgd.1 hc; omega)
        have hmI : ((P * b : Nat) : Int) = (P : Int) * (b : Int) := by simp
        have hmb : 0 ≤ (P : Int) * (b : Int) ∧ (P : Int) * (b : Int) ≤ 4611686018427387904 := by rw [← hmI]; exact ⟨Int.natCast_nonneg _, by omega⟩
        have hc' : P * b ≤ 4611686018427387904 := by omega
        have hrel : ∃ k' : Nat, k' ≤ ds.length ∧ Value.int .i64 ((k : Int) + 1) = .int .i64 (k' : Int) ∧ Value.int .u64 ((P : Int) * (b : Int)) = .int .u64 ((prodL R (ds.take k') : Nat) : Int) ∧ prodL R (ds.take k') ≤ 4611686018427387904 :=
          ⟨k + 1, by omega, by go_num, by rw [hpk.out, hmI], by rw [hpk.out]; exact hc'⟩
        replace hrel := Lib.hid hrel
        replace hgd := Lib.hid hgd
        replace hcd := Lib.hid hcd
        replace hc := Lib.hid hc
        replace hc' := Lib.hid hc'
        replace hmI := Lib.hid hmI
        go_wp2_with fail
        obtain ⟨k', r1, r2, r3, r4⟩ := hrel.out
        exact ⟨⟨k', r1, r2, r3, r4, by trivial⟩, by simp [intOf]; omega⟩
    · obtain rfl : k = ds.length := by omega
      have hkI : decide ((ds.length : Int) < (ds.length : Int)) = false := decide_eq_false (by omega)
      have hkN : decide (ds.length < ds.length) = false := decide_eq_false (by omega)
      rw [List.take_length] at hle ⊢
      have hx := Lib.hid ((hfin.out w2 B2.out).1 hle)
      go_wp2_with fail
      first | exact hx.out | (go_ret; exact hx.out)
end Go.Proofs.Ytikjpklbbjmioaa

/-! The reference's Digits and At. -/
namespace Go.Proofs.Ytikjpklbbjmioaa
open Go.RowKit Go.Maps
variable {w : World} {F : Own} {o h T : Nat} {R : Dv}
set_option maxHeartbeats 2000000 in
set_option maxRecDepth 100000 in
theorem rdigits_any (hr : RefSt w F o h T R) (n : Nat) (hn : n < 18446744073709551616) : Calls Try.prog 32 #[.pointer (some ⟨h, 0, none⟩), .int .u64 (n : Int)] w (SplitPost w R n) := by
  generalize hpost : SplitPost w R n = post
  have hn2 := hr.ok.n2
  have ht := hr.ok.t
  have hbs := rbases_any hr
  have hdl : (dirtyL R).length ≤ R.lines.length := dirtyTo_len R R.lines.length
  have hdm : ∀ k, k < (dirtyL R).length → (basesL R (dirtyL R))[k]? = some (baseL R ((dirtyL R).getD k 0)) ∧ baseL R ((dirtyL R).getD k 0) ≤ 100001 ∧ 1 ≤ baseL R ((dirtyL R).getD k 0) := fun k hk => by
    have h1 := get_of_lt 0 hk
    have h2 := (dirtyTo_mem (List.mem_of_getElem? h1)).1
    have h3 := (hr.ok.ln _ h2).hl
    refine ⟨by unfold basesL; rw [List.getElem?_map, h1]; rfl, ?_, ?_⟩ <;> unfold baseL <;> omega
  have hds := digTo_step R (dirtyL R) n
  have hrs := rest_step R (dirtyL R) n
  have hrl := fun k => rest_le R ((dirtyL R).drop k) n
  have hdgl := digTo_len R (dirtyL R) n
  have h00 : digTo R (dirtyL R) n (dirtyL R).length = List.replicate (dirtyL R).length 0 := by unfold digTo; rw [List.drop_length]; simp [digR]
  have h0z : digTo R (dirtyL R) n 0 = digR R (dirtyL R) n := by unfold digTo; simp
  have hz0 : restR R ((dirtyL R).drop (dirtyL R).length) n = n := by rw [List.drop_length]; rfl
  have hfin : ∀ b w', w.heap.size ≤ b → Has w' b (nats (digTo R (dirtyL R) n 0)) 3 → Below w.heap.size w w' → post (.returned (.tuple #[.slice (some ⟨b, 0, none⟩) (dirtyL R).length (dirtyL R).length, .bool (decide (restR R ((dirtyL R).drop 0) n = 0))])) w' := fun b w' hb h1 h2 => by
    rw [← hpost]; rw [h0z] at h1; rw [List.drop_zero]; exact ⟨_, rfl, h1, h2, hb⟩
  have hbl : (basesL R (dirtyL R)).length = (dirtyL R).length := by unfold basesL; rw [List.length_map]
  clear hpost hr h0z
  unfold NewU64 at hbs
  rw [hbl] at hbs
  generalize basesL R (dirtyL R) = bs at *
  generalize dirtyL R = ds at *
  have hmk := fun wx => make1 (P := Try.prog) 65 3 (.int .i64 0) 8 Try.underlying65 infoInt rfl ds.length (by omega) (by omega) wx
  have hnz : nats (List.replicate ds.length 0) = List.replicate ds.length (.int .i64 0) := by simp [nats]
  replace hfin := Lib.hid hfin
  replace hds := Lib.hid hds
  replace hrs := Lib.hid hrs
  replace hrl := Lib.hid hrl
  replace hdgl := Lib.hid hdgl
  replace hdm := Lib.hid hdm
  replace h00 := Lib.hid h00
  replace hz0 := Lib.hid hz0
  replace hnz := Lib.hid hnz
  replace hbs := Lib.hid hbs
  replace hbl := Lib.hid hbl
  go_enter Try.func32, Try.ntmps32
  go_wp2_with (refine hbs.out.mono ?_; rintro e w2 ⟨ba, bc, rfl, hG⟩; have hl2 := Rd.of_own hG.own; have B2 := hG.b; have hblt : ∀ j, Value.ownBlock (.slice ba ds.length bc) = some j → j < w2.heap.size := (fun j hj => ownsRow_lt hG.own hj); have hmk2 := hmk w2; have hA0 := Has.rep w2 ds.length (.int .i64 0) 3; replace hA0 := Lib.hid hA0; replace B2 := Lib.hid B2; replace hl2 := Lib.hid hl2; replace hblt := Lib.hid hblt; clear hG)
  have hs2 := B2.out.size
  go_loopw [1, 8] (fun nv iv wr => ∃ k : Nat, k ≤ ds.length ∧ iv = .int .i64 ((k : Int) - 1) ∧ nv = .int .u64 ((restR R (ds.drop k) n : Nat) : Int) ∧ Has wr w2.heap.size (nats (digTo R ds n k)) 3 ∧ Only (fun x => x = w2.heap.size) w2 wr) (fun _ iv _ => (intOf iv + 1).toNat)
  case atStart => exact ⟨ds.length, Nat.le_refl _, by first | rfl | (congr 1; omega), by rw [hz0.out], by rw [h00.out, hnz.out]; exact hA0.out, (Only.refl _ _).alloc _⟩
  case round =>
    clear hA0 hmk2 h00 hz0 hmk
    obtain ⟨k, hk, rfl, rfl, hA, hO⟩ := hrel
    by_cases hk0 : 0 < k
    · obtain ⟨j, rfl⟩ : ∃ j, k = j + 1 := ⟨k - 1, by omega⟩
      have hj : j < ds.length := by omega
      have hcI : ((j + 1 : Nat) : Int) - 1 = (j : Int) := by omega
      rw [hcI]
      have hjI : decide ((0 : Int) ≤ (j : Int)) = true := decide_eq_true (by omega)
      have hj0 : (0 : Int) ≤ (j : Int) := by omega
      have hjl : (j : Int) < (ds.length : Int) := by omega
      obtain ⟨hat, hb1, hb2⟩ := hdm.out j hj
      have hl3 := hl2.out.only hO (fun q hq e => by have := hblt.out q hq; omega)
      obtain ⟨bl, ol, cl, ea, fa⟩ := hl3.cells (by omega)
      simp only [Value.slice.injEq, true_and] at ea
      obtain ⟨rfl, ea2⟩ := ea
      replace ea2 := Lib.hid ea2
      have ck := fa _ _ (u64s_get _ _ _ hat)
      have hst := hds.out j hj
      have hrst := hrs.out j hj
      have hxl := hrl.out (j + 1)
      have hdgl1 := hdgl.out (j + 1) hk
      have cA := hA.cell (o := j) (nats_get _ j _ (get_of_lt 0 (by rw [hdgl1]; exact hj)))
      have fA := hA.free j
      have hblk : bl ≠ w2.heap.size := by have := hblt.out bl rfl; omega
      generalize baseL R (ds.getD j 0) = b at *
      obtain ⟨x, hx0⟩ : ∃ x, x = restR R (ds.drop (j + 1)) n := ⟨_, rfl⟩
      rw [← hx0] at hst hrst hxl ⊢
      have hxb : x < 18446744073709551616 := by omega
      have hml := Nat.mod_lt x (show 0 < b by omega)
      have hdv := Nat.div_le_self x b
      obtain ⟨md, hmd⟩ : ∃ md, md = x % b := ⟨_, rfl⟩
      obtain ⟨dv, hdvd⟩ : ∃ dv, dv = x / b := ⟨_, rfl⟩
      have cm : (x : Int) % (b : Int) = (md : Int) := by rw [hmd]; simp
      have cd : (x : Int) / (b : Int) = (dv : Int) := by rw [hdvd]; simp
      rw [← hmd] at hst hml
      rw [← hdvd] at hrst hdv
      replace hmd := Lib.hid hmd
      replace hdvd := Lib.hid hdvd
      have e1 : 0 ≤ (x : Int) % (b : Int) ∧ (x : Int) % (b : Int) ≤ 100001 := by rw [cm]; omega
      have e2 : 0 ≤ (x : Int) / (b : Int) ∧ (x : Int) / (b : Int) < 18446744073709551616 := by rw [cd]; omega
      have e3 : ((b : Int) == 0) = false := beq_eq_false_iff_ne.2 (by omega)
      have e4 : ¬ ((b : Int) = 0) := by omega
      have hA2 := hA.set j (.int .i64 (md : Int))
      rw [← nats_set, hst, ← cm] at hA2
      have ckb := ((Only.refl (fun q => q = w2.heap.size) wr).setCell (a := ⟨w2.heap.size, j, none⟩) (fun _ => rfl) (.int .i64 ((x : Int) % (b : Int)))).cell ck hblk
      have hO3 := hO.setCell (a := ⟨w2.heap.size, j, none⟩) (fun _ => rfl) (.int .i64 ((x : Int) % (b : Int)))
      have hrel : ∃ k' : Nat, k' ≤ ds.length ∧ Value.int .i64 ((j : Int) - 1) = .int .i64 ((k' : Int) - 1) ∧ Value.int .u64 ((x : Int) / (b : Int)) = .int .u64 ((restR R (ds.drop k') n : Nat) : Int) ∧
          Has (wr.setCell ⟨w2.heap.size, j, none⟩ (.int .i64 ((x : Int) % (b : Int)))) w2.heap.size (nats (digTo R ds n k')) 3 ∧ Only (fun x => x = w2.heap.size) w2 (wr.setCell ⟨w2.heap.size, j, none⟩ (.int .i64 ((x : Int) % (b : Int)))) :=
        ⟨j, by omega, rfl, by rw [hrst, cd], hA2, hO3⟩
      replace hrel := Lib.hid hrel
      replace cm := Lib.hid cm
      replace cd := Lib.hid cd
      replace hx0 := Lib.hid hx0
      replace hat := Lib.hid hat
      clear hA2 hO3 hA hO hst hrst hdgl1 hml hdv fa hxl hl3
      generalize (digTo R ds n (j + 1)).getD j 0 = old at *
      go_wp2_with fail
      refine ⟨hrel.out, ?_⟩
      show ((j : Int) - 1 + 1).toNat < ((j : Int) + 1).toNat
      omega
    · obtain rfl : k = 0 := by omega
      have hcI : ((0 : Nat) : Int) - 1 = -1 := by omega
      have hx := Lib.hid (hfin.out w2.heap.size wr hs2 hA (B2.out.trans (hO.below (B := w.heap.size) hs2 (fun q _ e => by omega))))
      generalize restR R (ds.drop 0) n = y at *
      have g0 : ((y : Int) == 0) = decide (y = 0) := by
        by_cases h : y = 0
        · subst h; rfl
        · rw [decide_eq_false h]; exact beq_eq_false_iff_ne.2 (by omega)
      clear hA hO
      go_wp2_with fail
      exact hx.out
def RAtPost (w : World) (R : Dv) (n : Nat) (e : Ending) (w' : World) : Prop :=
  if atOk R n = true then ∃ a c, e = .returned (.tuple #[.slice a (atB R n).length c, .bool true]) ∧ Grow w w' 5 a (atB R n).length c (u8s (atB R n)) else e = .returned (.tuple #[.slice none 0 0, .bool false]) ∧ Below w.heap.size w w'
set_option maxHeartbeats 1000000 in
theorem rat_any (hr : RefSt w F o h T R) (n : Nat) (hn : n < 18446744073709551616) : Calls Try.prog 22 #[.pointer (some ⟨h, 0, none⟩), .int .u64 (n : Int)] w (RAtPost w R n) := by
  generalize hpost : RAtPost w R n = post
  have hn2 := hr.ok.n2
  have hdg := Lib.hid (rdigits_any hr n hn)
  have hdl := digR_len R (dirtyL R) n
  have hdl2 : (dirtyL R).length ≤ R.lines.length := dirtyTo_len R R.lines.length
  have hle : ∀ l, l < R.lines.length → kOf R (digR R (dirtyL R) n) l ≤ (R.line l).hist.length := fun l hl => by
    by_cases hc : 0 < (R.line l).hist.length
    · have h2 := dirty_place hl hc
      have h3 := dirty_lt hl hc
      unfold kOf
      rw [if_pos hc, if_pos (by rw [hdl]; exact h3)]
      exact digR_le R _ n _ l h2
    · unfold kOf; rw [if_neg hc]; omega
  have hcn := Lib.hid (fun (wx : World) (hB : Below w.heap.size w wx) (b : Nat) (hb : Has wx b (nats (digR R (dirtyL R) n)) 3) => rcontent_any (hr.below hB) (some ⟨b, 0, none⟩) (digR R (dirtyL R) n).length (digR R (dirtyL R) n) (Rd.of_has hb _ _) hle (by rw [hdl]; omega))
  have hok : atOk R n = decide (restR R (dirtyL R) n = 0) := rfl
  have hat : atB R n = bytesL (crashW R (kOf R (digR R (dirtyL R) n))) := rfl
  rw [hdl] at hcn
  have hsp : Calls Try.prog 32 #[.pointer (some ⟨h, 0, none⟩), .int .u64 (n : Int)] w fun e w3 => ∃ b, e = .returned (.tuple #[.slice (some ⟨b, 0, none⟩) (dirtyL R).length (dirtyL R).length, .bool (atOk R n)]) ∧ Below w.heap.size w w3 ∧
      Calls Try.prog 55 #[.pointer (some ⟨h, 0, none⟩), .slice (some ⟨b, 0, none⟩) (dirtyL R).length (dirtyL R).length] w3 (NewBytes w3 (atB R n)) := by
    refine hdg.out.mono ?_
    rintro e w3 ⟨b, rfl, h1, h2, _⟩
    exact ⟨b, rfl, h2, hcn.out w3 h2 b h1⟩
  clear hr hdg hcn hle
  by_cases hk : atOk R n = true
  · have hf : ∀ w3 a c w', Below w.heap.size w w3 → Grow w3 w' 5 a (atB R n).length c (u8s (atB R n)) → post (.returned (.tuple #[.slice a (atB R n).length c, .bool true])) w' := fun w3 a c w' hb hg => by
      rw [← hpost]; unfold RAtPost; rw [if_pos hk]
      exact ⟨a, c, rfl, hg.own, hb.trans (hg.b.mono hb.size), fun j hj => by have := hg.fr j hj; have := hb.size; omega⟩
    rw [hk] at hsp
    replace hf := Lib.hid hf
    replace hsp := Lib.hid hsp
    replace hpost := Lib.hid hpost
    clear hk hok hat
    generalize atB R n = bs at *
    go_enter Try.func22, Try.ntmps22
    go_wp2_with (first
      | (refine hsp.out.mono ?_; rintro e w3 ⟨b, rfl, hB3, hc3⟩; replace hB3 := Lib.hid hB3; replace hc3 := Lib.hid hc3)
      | (refine hc3.out.mono ?_; rintro e w4 ⟨a, c, rfl, hg⟩; have hx := Lib.hid (hf.out w3 a c w4 hB3.out hg); clear hg))
    first | exact hx.out | (go_ret2; exact hx.out)
  · have hkf : atOk R n = false := by simpa using hk
    have hf : ∀ w', Below w.heap.size w w' → post (.returned (.tuple #[.slice none 0 0, .bool false])) w' := fun w' hb => by
      rw [← hpost]; unfold RAtPost; rw [if_neg hk]; exact ⟨rfl, hb⟩
    rw [hkf] at hsp
    replace hf := Lib.hid hf
    replace hsp := Lib.hid hsp
    replace hpost := Lib.hid hpost
    clear hk hok hat hkf
    go_enter Try.func22, Try.ntmps22
    go_wp2_with (refine hsp.out.mono ?_; rintro e w3 ⟨b, rfl, hB3, hc3⟩; have hx := Lib.hid (hf.out w3 hB3); clear hc3)
    first | exact hx.out | (go_ret2; exact hx.out)
end Go.Proofs.Ytikjpklbbjmioaa
