/- The reference's Digits and At. -/
import Derived.Test.YtikjpklbbjmioaaK8
namespace Go.Proofs.Ytikjpklbbjmioaa
open Go.RowKit Go.Maps
variable {w : World} {F : Own} {o h T : Nat} {R : Dv}
set_option maxHeartbeats 2000000 in
set_option maxRecDepth 100000 in
theorem rdigits_any (hr : RefSt w F o h T R) (n : Nat) (hn : n < 18446744073709551616) : Calls Try.prog 32 #[.pointer (some ⟨h, 0, none⟩), .int .u64 (n : Int)] w (SplitPost w R n) := by
  generalize hpost : SplitPost w R n = post
  have hn2 := hr.ok.n2
  have ht := hr.ok.t
  have hbs := rbases_any hr
  have hdl : (dirtyL R).length ≤ R.lines.length := dirtyTo_len R R.lines.length
  have hdm : ∀ k, k < (dirtyL R).length → (basesL R (dirtyL R))[k]? = some (baseL R ((dirtyL R).getD k 0)) ∧ baseL R ((dirtyL R).getD k 0) ≤ 100001 ∧ 1 ≤ baseL R ((dirtyL R).getD k 0) := fun k hk => by
    have h1 := get_of_lt 0 hk
    have h2 := (dirtyTo_mem (List.mem_of_getElem? h1)).1
    have h3 := (hr.ok.ln _ h2).hl
    refine ⟨by unfold basesL; rw [List.getElem?_map, h1]; rfl, ?_, ?_⟩ <;> unfold baseL <;> omega
  have hds := digTo_step R (dirtyL R) n
  have hrs := rest_step R (dirtyL R) n
  have hrl := fun k => rest_le R ((dirtyL R).drop k) n
  have hdgl := digTo_len R (dirtyL R) n
  have h00 : digTo R (dirtyL R) n (dirtyL R).length = List.replicate (dirtyL R).length 0 := by unfold digTo; rw [List.drop_length]; simp [digR]
  have h0z : digTo R (dirtyL R) n 0 = digR R (dirtyL R) n := by unfold digTo; simp
  have hz0 : restR R ((dirtyL R).drop (dirtyL R).length) n = n := by rw [List.drop_length]; rfl
  have hfin : ∀ b w', w.heap.size ≤ b → Has w' b (nats (digTo R (dirtyL R) n 0)) 3 → Below w.heap.size w w' → post (.returned (.tuple #[.slice (some ⟨b, 0, none⟩) (dirtyL R).length (dirtyL R).length, .bool (decide (restR R ((dirtyL R).drop 0) n = 0))])) w' := fun b w' hb h1 h2 => by
    rw [← hpost]; rw [h0z] at h1; rw [List.drop_zero]; exact ⟨_, rfl, h1, h2, hb⟩
  have hbl : (basesL R (dirtyL R)).length = (dirtyL R).length := by unfold basesL; rw [List.length_map]
  clear hpost hr h0z
  unfold NewU64 at hbs
  rw [hbl] at hbs
  generalize basesL R (dirtyL R) = bs at *
  generalize dirtyL R = ds at *
  have hmk := fun wx => make1 (P := Try.prog) 65 3 (.int .i64 0) 8 Try.underlying65 infoInt rfl ds.length (by omega) (by omega) wx
  have hnz : nats (List.replicate ds.length 0) = List.replicate ds.length (.int .i64 0) := by simp [nats]
  replace hfin := Lib.hid hfin
  replace hds := Lib.hid hds
  replace hrs := Lib.hid hrs
  replace hrl := Lib.hid hrl
  replace hdgl := Lib.hid hdgl
  replace hdm := Lib.hid hdm
  replace h00 := Lib.hid h00
  replace hz0 := Lib.hid hz0
  replace hnz := Lib.hid hnz
  replace hbs := Lib.hid hbs
  replace hbl := Lib.hid hbl
  go_enter Try.func32, Try.ntmps32
  go_wp2_with (refine hbs.out.mono ?_; rintro e w2 ⟨ba, bc, rfl, hG⟩; have hl2 := Rd.of_own hG.own; have B2 := hG.b; have hblt : ∀ j, Value.ownBlock (.slice ba ds.length bc) = some j → j < w2.heap.size := (fun j hj => ownsRow_lt hG.own hj); have hmk2 := hmk w2; have hA0 := Has.rep w2 ds.length (.int .i64 0) 3; replace hA0 := Lib.hid hA0; replace B2 := Lib.hid B2; replace hl2 := Lib.hid hl2; replace hblt := Lib.hid hblt; clear hG)
  have hs2 := B2.out.size
  go_loopw [1, 8] (fun nv iv wr => ∃ k : Nat, k ≤ ds.length ∧ iv = .int .i64 ((k : Int) - 1) ∧ nv = .int .u64 ((restR R (ds.drop k) n : Nat) : Int) ∧ Has wr w2.heap.size (nats (digTo R ds n k)) 3 ∧ Only (fun x => x = w2.heap.size) w2 wr) (fun _ iv _ => (intOf iv + 1).toNat)
  case atStart => exact ⟨ds.length, Nat.le_refl _, by first | rfl | (congr 1; omega), by rw [hz0.out], by rw [h00.out, hnz.out]; exact hA0.out, (Only.refl _ _).alloc _⟩
  case round =>
    clear hA0 hmk2 h00 hz0 hmk
    obtain ⟨k, hk, rfl, rfl, hA, hO⟩ := hrel
    by_cases hk0 : 0 < k
    · obtain ⟨j, rfl⟩ : ∃ j, k = j + 1 := ⟨k - 1, by omega⟩
      have hj : j < ds.length := by omega
      have hcI : ((j + 1 : Nat) : Int) - 1 = (j : Int) := by omega
      rw [hcI]
      have hjI : decide ((0 : Int) ≤ (j : Int)) = true := decide_eq_true (by omega)
      have hj0 : (0 : Int) ≤ (j : Int) := by omega
      have hjl : (j : Int) < (ds.length : Int) := by omega
      obtain ⟨hat, hb1, hb2⟩ := hdm.out j hj
      have hl3 := hl2.out.only hO (fun q hq e => by have := hblt.out q hq; omega)
      obtain ⟨bl, ol, cl, ea, fa⟩ := hl3.cells (by omega)
      simp only [Value.slice.injEq, true_and] at ea
      obtain ⟨rfl, ea2⟩ := ea
      replace ea2 := Lib.hid ea2
      have ck := fa _ _ (u64s_get _ _ _ hat)
      have hst := hds.out j hj
      have hrst := hrs.out j hj
      have hxl := hrl.out (j + 1)
      have hdgl1 := hdgl.out (j + 1) hk
      have cA := hA.cell (o := j) (nats_get _ j _ (get_of_lt 0 (by rw [hdgl1]; exact hj)))
      have fA := hA.free j
      have hblk : bl ≠ w2.heap.size := by have := hblt.out bl rfl; omega
      generalize baseL R (ds.getD j 0) = b at *
      obtain ⟨x, hx0⟩ : ∃ x, x = restR R (ds.drop (j + 1)) n := ⟨_, rfl⟩
      rw [← hx0] at hst hrst hxl ⊢
      have hxb : x < 18446744073709551616 := by omega
      have hml := Nat.mod_lt x (show 0 < b by omega)
      have hdv := Nat.div_le_self x b
      obtain ⟨md, hmd⟩ : ∃ md, md = x % b := ⟨_, rfl⟩
      obtain ⟨dv, hdvd⟩ : ∃ dv, dv = x / b := ⟨_, rfl⟩
      have cm : (x : Int) % (b : Int) = (md : Int) := by rw [hmd]; simp
      have cd : (x : Int) / (b : Int) = (dv : Int) := by rw [hdvd]; simp
      rw [← hmd] at hst hml
      rw [← hdvd] at hrst hdv
      replace hmd := Lib.hid hmd
      replace hdvd := Lib.hid hdvd
      have e1 : 0 ≤ (x : Int) % (b : Int) ∧ (x : Int) % (b : Int) ≤ 100001 := by rw [cm]; omega
      have e2 : 0 ≤ (x : Int) / (b : Int) ∧ (x : Int) / (b : Int) < 18446744073709551616 := by rw [cd]; omega
      have e3 : ((b : Int) == 0) = false := beq_eq_false_iff_ne.2 (by omega)
      have e4 : ¬ ((b : Int) = 0) := by omega
      have hA2 := hA.set j (.int .i64 (md : Int))
      rw [← nats_set, hst, ← cm] at hA2
      have ckb := ((Only.refl (fun q => q = w2.heap.size) wr).setCell (a := ⟨w2.heap.size, j, none⟩) (fun _ => rfl) (.int .i64 ((x : Int) % (b : Int)))).cell ck hblk
      have hO3 := hO.setCell (a := ⟨w2.heap.size, j, none⟩) (fun _ => rfl) (.int .i64 ((x : Int) % (b : Int)))
      have hrel : ∃ k' : Nat, k' ≤ ds.length ∧ Value.int .i64 ((j : Int) - 1) = .int .i64 ((k' : Int) - 1) ∧ Value.int .u64 ((x : Int) / (b : Int)) = .int .u64 ((restR R (ds.drop k') n : Nat) : Int) ∧
          Has (wr.setCell ⟨w2.heap.size, j, none⟩ (.int .i64 ((x : Int) % (b : Int)))) w2.heap.size (nats (digTo R ds n k')) 3 ∧ Only (fun x => x = w2.heap.size) w2 (wr.setCell ⟨w2.heap.size, j, none⟩ (.int .i64 ((x : Int) % (b : Int)))) :=
        ⟨j, by omega, rfl, by rw [hrst, cd], hA2, hO3⟩
      replace hrel := Lib.hid hrel
      replace cm := Lib.hid cm
      replace cd := Lib.hid cd
      replace hx0 := Lib.hid hx0
      replace hat := Lib.hid hat
      clear hA2 hO3 hA hO hst hrst hdgl1 hml hdv fa hxl hl3
      generalize (digTo R ds n (j + 1)).getD j 0 = old at *
      go_wp2_with fail
      refine ⟨hrel.out, ?_⟩
      show ((j : Int) - 1 + 1).toNat < ((j : Int) + 1).toNat
      omega
    · obtain rfl : k = 0 := by omega
      have hcI : ((0 : Nat) : Int) - 1 = -1 := by omega
      have hx := Lib.hid (hfin.out w2.heap.size wr hs2 hA (B2.out.trans (hO.below (B := w.heap.size) hs2 (fun q _ e => by omega))))
      generalize restR R (ds.drop 0) n = y at *
      have g0 : ((y : Int) == 0) = decide (y = 0) := by
        by_cases h : y = 0
        · subst h; rfl
        · rw [decide_eq_false h]; exact beq_eq_false_iff_ne.2 (by omega)
      clear hA hO
      go_wp2_with fail
      exact hx.out
def RAtPost (w : World) (R : Dv) (n : Nat) (e : Ending) (w' : World) : Prop :=
  if atOk R n = true then ∃ a c, e = .returned (.tuple #[.slice a (atB R n).length c, .bool true]) ∧ Grow w w' 5 a (atB R n).length c (u8s (atB R n)) else e = .returned (.tuple #[.slice none 0 0, .bool false]) ∧ Below w.heap.size w w'
set_option maxHeartbeats 1000000 in
theorem rat_any (hr : RefSt w F o h T R) (n : Nat) (hn : n < 18446744073709551616) : Calls Try.prog 22 #[.pointer (some ⟨h, 0, none⟩), .int .u64 (n : Int)] w (RAtPost w R n) := by
  generalize hpost : RAtPost w R n = post
  have hn2 := hr.ok.n2
  have hdg := Lib.hid (rdigits_any hr n hn)
  have hdl := digR_len R (dirtyL R) n
  have hdl2 : (dirtyL R).length ≤ R.lines.length := dirtyTo_len R R.lines.length
  have hle : ∀ l, l < R.lines.length → kOf R (digR R (dirtyL R) n) l ≤ (R.line l).hist.length := fun l hl => by
    by_cases hc : 0 < (R.line l).hist.length
    · have h2 := dirty_place hl hc
      have h3 := dirty_lt hl hc
      unfold kOf
      rw [if_pos hc, if_pos (by rw [hdl]; exact h3)]
      exact digR_le R _ n _ l h2
    · unfold kOf; rw [if_neg hc]; omega
  have hcn := Lib.hid (fun (wx : World) (hB : Below w.heap.size w wx) (b : Nat) (hb : Has wx b (nats (digR R (dirtyL R) n)) 3) => rcontent_any (hr.below hB) (some ⟨b, 0, none⟩) (digR R (dirtyL R) n).length (digR R (dirtyL R) n) (Rd.of_has hb _ _) hle (by rw [hdl]; omega))
  have hok : atOk R n = decide (restR R (dirtyL R) n = 0) := rfl
  have hat : atB R n = bytesL (crashW R (kOf R (digR R (dirtyL R) n))) := rfl
  rw [hdl] at hcn
  have hsp : Calls Try.prog 32 #[.pointer (some ⟨h, 0, none⟩), .int .u64 (n : Int)] w fun e w3 => ∃ b, e = .returned (.tuple #[.slice (some ⟨b, 0, none⟩) (dirtyL R).length (dirtyL R).length, .bool (atOk R n)]) ∧ Below w.heap.size w w3 ∧
      Calls Try.prog 55 #[.pointer (some ⟨h, 0, none⟩), .slice (some ⟨b, 0, none⟩) (dirtyL R).length (dirtyL R).length] w3 (NewBytes w3 (atB R n)) := by
    refine hdg.out.mono ?_
    rintro e w3 ⟨b, rfl, h1, h2, _⟩
    exact ⟨b, rfl, h2, hcn.out w3 h2 b h1⟩
  clear hr hdg hcn hle
  by_cases hk : atOk R n = true
  · have hf : ∀ w3 a c w', Below w.heap.size w w3 → Grow w3 w' 5 a (atB R n).length c (u8s (atB R n)) → post (.returned (.tuple #[.slice a (atB R n).length c, .bool true])) w' := fun w3 a c w' hb hg => by
      rw [← hpost]; unfold RAtPost; rw [if_pos hk]
      exact ⟨a, c, rfl, hg.own, hb.trans (hg.b.mono hb.size), fun j hj => by have := hg.fr j hj; have := hb.size; omega⟩
    rw [hk] at hsp
    replace hf := Lib.hid hf
    replace hsp := Lib.hid hsp
    replace hpost := Lib.hid hpost
    clear hk hok hat
    generalize atB R n = bs at *
    go_enter Try.func22, Try.ntmps22
    go_wp2_with (first
      | (refine hsp.out.mono ?_; rintro e w3 ⟨b, rfl, hB3, hc3⟩; replace hB3 := Lib.hid hB3; replace hc3 := Lib.hid hc3)
      | (refine hc3.out.mono ?_; rintro e w4 ⟨a, c, rfl, hg⟩; have hx := Lib.hid (hf.out w3 a c w4 hB3.out hg); clear hg))
    first | exact hx.out | (go_ret2; exact hx.out)
  · have hkf : atOk R n = false := by simpa using hk
    have hf : ∀ w', Below w.heap.size w w' → post (.returned (.tuple #[.slice none 0 0, .bool false])) w' := fun w' hb => by
      rw [← hpost]; unfold RAtPost; rw [if_neg hk]; exact ⟨rfl, hb⟩
    rw [hkf] at hsp
    replace hf := Lib.hid hf
    replace hsp := Lib.hid hsp
    replace hpost := Lib.hid hpost
    clear hk hok hat hkf
    go_enter Try.func22, Try.ntmps22
    go_wp2_with (refine hsp.out.mono ?_; rintro e w3 ⟨b, rfl, hB3, hc3⟩; have hx := Lib.hid (hf.out w3 hB3); clear hc3)
    first | exact hx.out | (go_ret2; exact hx.out)
end Go.Proofs.Ytikjpklbbjmioaa
