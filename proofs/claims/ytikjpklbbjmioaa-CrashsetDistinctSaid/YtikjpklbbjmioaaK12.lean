/- crashset: Choice. -/
import Derived.Test.YtikjpklbbjmioaaK6
namespace Go.Proofs.Ytikjpklbbjmioaa
open Go.RowKit Go.Maps
variable {w : World} {F : Own} {o T : Nat} {R : Dv} {L : Lay}

/-- The choice string so far. -/
def chTo (dg : List Nat) (k : Nat) : List Nat := dg.take k ++ List.replicate (dg.length - k) 0
theorem chTo_len (dg : List Nat) (k : Nat) (h : k ≤ dg.length) : (chTo dg k).length = dg.length := by
  unfold chTo; rw [List.length_append, List.length_take, List.length_replicate]; omega
theorem chTo_step (dg : List Nat) (k : Nat) (h : k < dg.length) : (chTo dg k).set k (dg.getD k 0) = chTo dg (k + 1) := by
  unfold chTo
  have hl : (dg.take k).length = k := by rw [List.length_take]; omega
  rw [List.set_append_right _ _ (by rw [hl]; exact Nat.le_refl _), hl, Nat.sub_self, show dg.length - k = (dg.length - (k + 1)) + 1 by omega, List.replicate_succ, List.set_cons_zero, take_getD dg k 0 h, List.append_assoc]
  rfl
/-- No history of the lines is too long for a choice string. -/
def fitsB (R : Dv) (ds : List Nat) : Bool := ds.all fun l => decide ((R.line l).hist.length ≤ 255)
def ChoicePost (w : World) (R : Dv) (n : Nat) (e : Ending) (w' : World) : Prop :=
  Below w.heap.size w w' ∧ if atOk R n = true then
    if fitsB R (dirtyL R) = true then ∃ b, e = .returned (.tuple #[.slice (some ⟨b, 0, none⟩) (dirtyL R).length (dirtyL R).length, .int .i64 0]) ∧ Has w' b (u8s (digR R (dirtyL R) n)) 5 ∧ w.heap.size ≤ b
    else e = .returned (.tuple #[.slice none 0 0, .int .i64 9])
  else e = .returned (.tuple #[.slice none 0 0, .int .i64 2])
set_option maxHeartbeats 2000000 in
set_option maxRecDepth 100000 in
theorem choice_any (h : DevSt w F o L T R) (n : Nat) (hn : n < 18446744073709551616) : Calls Try.prog 17 #[.pointer (some ⟨L.g, 0, none⟩), .int .u64 (n : Int)] w (ChoicePost w R n) := by
  generalize hpost : ChoicePost w R n = post
  have hok := h.ok
  have ht := hok.t
  have hn2 := hok.n2
  have hdl0 : (dirtyL R).length ≤ R.lines.length := dirtyTo_len R R.lines.length
  have hdm : ∀ k, k < (dirtyL R).length → (dirtyL R)[k]? = some ((dirtyL R).getD k 0) ∧ (R.line ((dirtyL R).getD k 0)).hist.length ≤ 100000 := fun k hk => by
    have h1 := get_of_lt 0 hk
    have h2 := (hok.ln _ (dirtyTo_mem (List.mem_of_getElem? h1)).1).hl
    exact ⟨h1, by omega⟩
  have hex := Lib.hid (examine_any h)
  have hsp := Lib.hid (fun (wx : World) (pv lv hv : Value) (hs : SetSt wx R pv lv hv) => split_any h.ok hs n hn)
  have hdl := digR_len R (dirtyL R) n
  have hdle : ∀ k, k < (dirtyL R).length → (digR R (dirtyL R) n).getD k 0 ≤ (R.line ((dirtyL R).getD k 0)).hist.length := fun k hk => digR_le R _ n k _ (get_of_lt 0 hk)
  have hend1 : ∀ w', Below w.heap.size w w' → restR R (dirtyL R) n ≠ 0 → post (.returned (.tuple #[.slice none 0 0, .int .i64 2])) w' := fun w' hb hr => by
    rw [← hpost]
    refine ⟨hb, ?_⟩
    rw [if_neg (by unfold atOk; simpa using hr)]
  have hend2 : ∀ w' k, Below w.heap.size w w' → restR R (dirtyL R) n = 0 → k < (dirtyL R).length → 255 < (R.line ((dirtyL R).getD k 0)).hist.length → post (.returned (.tuple #[.slice none 0 0, .int .i64 9])) w' := fun w' k hb hr hk hlt => by
    rw [← hpost]
    refine ⟨hb, ?_⟩
    rw [if_pos (by unfold atOk; simpa using hr), if_neg]
    unfold fitsB
    rw [List.all_eq_true]
    intro hall
    have := hall _ (List.mem_of_getElem? (get_of_lt 0 hk))
    rw [decide_eq_true_eq] at this
    omega
  have hend3 : ∀ w' b, Below w.heap.size w w' → restR R (dirtyL R) n = 0 → (∀ k, k < (dirtyL R).length → (R.line ((dirtyL R).getD k 0)).hist.length ≤ 255) → Has w' b (u8s (digR R (dirtyL R) n)) 5 → w.heap.size ≤ b → post (.returned (.tuple #[.slice (some ⟨b, 0, none⟩) (dirtyL R).length (dirtyL R).length, .int .i64 0])) w' := fun w' b hb hr hall hh hsz => by
    rw [← hpost]
    refine ⟨hb, ?_⟩
    rw [if_pos (by unfold atOk; simpa using hr), if_pos]
    · exact ⟨b, rfl, hh, hsz⟩
    · unfold fitsB
      rw [List.all_eq_true]
      intro l hl
      obtain ⟨k, hk⟩ := List.mem_iff_getElem?.1 hl
      have hkl : k < (dirtyL R).length := by
        rcases Nat.lt_or_ge k (dirtyL R).length with h | h
        · exact h
        · rw [List.getElem?_eq_none h] at hk; cases hk
      have h1 := get_of_lt 0 hkl
      rw [hk] at h1
      have h2 := hall k hkl
      rw [← Option.some.inj h1] at h2
      exact decide_eq_true h2
  replace hend1 := Lib.hid hend1
  replace hend2 := Lib.hid hend2
  replace hend3 := Lib.hid hend3
  clear h hpost hok
  go_enter Try.func17, Try.ntmps17
  go_wp2_with fail
  refine hex.out.mono ?_
  rintro e w1 ⟨pv, lv, hv, rfl, hs1, B1⟩
  obtain ⟨w2, hw2⟩ : ∃ w2, w2 = w1.alloc (.cells #[pv, lv, hv] 102) := ⟨_, rfl⟩
  have B2 : Below w1.heap.size w1 w2 := by rw [hw2]; exact (Below.refl _ _).alloc (Nat.le_refl _) _
  have hs2 := hs1.kept B2
  have hS2 : Has w2 w1.heap.size [pv, lv, hv] 102 := by rw [hw2]; exact Has.new w1 [pv, lv, hv] 102
  have hsp2 := hsp.out w2 pv lv hv hs2
  have hB2 := B1.trans (B2.mono B1.size)
  obtain ⟨⟨pb, rfl, _⟩, ⟨la, lc, rfl, _⟩, ⟨ha, hc, vs, rfl, hHi, hRd⟩⟩ := id hs2
  have hsp3 : Calls Try.prog 49 #[.agg #[.slice (some ⟨pb, 0, none⟩) (bytesL R.perW).length (bytesL R.perW).length, .slice la (dirtyL R).length lc, .slice ha (dirtyL R).length hc], .int .u64 (n : Int)]
      (w1.alloc (.cells #[.slice (some ⟨pb, 0, none⟩) (bytesL R.perW).length (bytesL R.perW).length, .slice la (dirtyL R).length lc, .slice ha (dirtyL R).length hc] 102)) fun e w3 =>
      ∃ b, e = .returned (.tuple #[.slice (some ⟨b, 0, none⟩) (dirtyL R).length (dirtyL R).length, .bool (decide (restR R (dirtyL R) n = 0))]) ∧
        Has w3 w1.heap.size [.slice (some ⟨pb, 0, none⟩) (bytesL R.perW).length (bytesL R.perW).length, .slice la (dirtyL R).length lc, .slice ha (dirtyL R).length hc] 102 ∧
        Has w3 b (nats (digR R (dirtyL R) n)) 3 ∧ Rd w3 (.slice ha (dirtyL R).length hc) (dirtyL R).length vs ∧ Below w.heap.size w w3 := by
    rw [← hw2]
    refine hsp2.mono ?_
    rintro e w3 ⟨b, rfl, hb3, B3, hbf⟩
    exact ⟨b, rfl, hS2.only (Only.of_below B3) (by have := hS2.lt; omega), hb3, hRd.kept B3, hB2.trans (B3.mono hB2.size)⟩
  have hHg := hHi.2
  replace hsp3 := Lib.hid hsp3
  replace hHg := Lib.hid hHg
  replace hw2 := Lib.hid hw2
  clear hs1 B1 B2 hs2 hS2 hsp2 hB2 hHi hRd hsp hex
  generalize (bytesL R.perW).length = np at *
  generalize dirtyL R = ds at *
  have hcs := chTo_step (digR R ds n)
  have hcl := chTo_len (digR R ds n)
  have hc0 : chTo (digR R ds n) 0 = List.replicate ds.length 0 := by unfold chTo; simp [hdl]
  have hcz : chTo (digR R ds n) ds.length = digR R ds n := by unfold chTo; rw [← hdl]; simp
  rw [hdl] at hcs hcl
  generalize digR R ds n = dg at *
  generalize restR R ds n = rs at *
  by_cases hr : rs = 0
  · rw [decide_eq_true hr] at hsp3
    have hmk := fun wx => make1 (P := Try.prog) 31 5 (.int .u8 0) 1 Try.underlying31 infoU8 rfl ds.length (by omega) (by omega) wx
    replace hsp3 := Lib.hid hsp3
    replace hcs := Lib.hid hcs
    replace hcl := Lib.hid hcl
    replace hc0 := Lib.hid hc0
    replace hcz := Lib.hid hcz
    replace hdle := Lib.hid hdle
    replace hdm := Lib.hid hdm
    replace hr := Lib.hid hr
    go_wp2_with fail
    refine hsp3.out.out.mono ?_
    rintro e w3 ⟨b, rfl, hS3, hD3, hR3, hB3⟩
    have hmk3 := hmk w3
    have hA0 := Has.rep w3 ds.length (.int .u8 0) 5
    have hu0 : u8s (List.replicate ds.length 0) = List.replicate ds.length (.int .u8 0) := u8s_rep _
    rw [← hu0, ← hc0.out] at hA0
    have sS := hS3.lt
    have sD := hD3.lt
    have sB := hB3.size
    have hRl : ∀ q, Value.ownBlock (.slice ha ds.length hc) = some q → 0 < ds.length → q < w3.heap.size := fun q hq hpos => by
      obtain ⟨bl, ol, cl, ea, fa⟩ := hR3.cells hpos
      simp only [Value.slice.injEq, true_and] at ea
      obtain ⟨rfl, _⟩ := ea
      obtain ⟨l0, c0', x0, _⟩ := hHg.out 0 _ (hdm.out 0 hpos).1
      have := World.block_lt_of_cell? _ _ (fa _ _ x0)
      cases hq; exact this
    replace hRl := Lib.hid hRl
    replace hA0 := Lib.hid hA0
    replace hS3 := Lib.hid hS3
    replace hD3 := Lib.hid hD3
    replace hR3 := Lib.hid hR3
    replace hB3 := Lib.hid hB3
    replace hu0 := Lib.hid hu0
    clear hsp3 hmk
    go_wp2_with fail
    go_loopw [29] (fun iv wr => ∃ k : Nat, k ≤ ds.length ∧ iv = .int .i64 (k : Int) ∧ (∀ j, j < k → (R.line (ds.getD j 0)).hist.length ≤ 255) ∧ Has wr w3.heap.size (u8s (chTo dg k)) 5 ∧ Only (fun q => q = w3.heap.size) w3 wr) (fun iv _ => ds.length - (intOf iv).toNat)
    case atStart => exact ⟨0, Nat.zero_le _, rfl, fun _ hj => absurd hj (Nat.not_lt_zero _), hA0.out, (Only.refl _ _).alloc _⟩
    case round =>
      clear hA0 hmk3
      obtain ⟨k, hk, rfl, hall, hA, hO⟩ := hrel
      by_cases hkl : k < ds.length
      · have cd := decide_eq_true (show (k : Int) < (ds.length : Int) by omega)
        have hklI : (k : Int) < (ds.length : Int) := by omega
        obtain ⟨hdk, hdb⟩ := hdm.out k hkl
        have hle := hdle.out k hkl
        have cg := (hD3.out.only hO (by omega)).cell (o := k) (nats_get _ k _ (get_of_lt 0 (by rw [hdl]; exact hkl)))
        have cS := (hS3.out.only hO (by omega)).cell (o := 2) rfl
        obtain ⟨xa, xc, hx, _⟩ := hHg.out k _ hdk
        obtain ⟨bl, ol, cl, ea, fa⟩ := (hR3.out.only hO (fun q hq e => by have := hRl.out q hq (by omega); omega)).cells (by omega)
        simp only [Value.slice.injEq, true_and] at ea
        obtain ⟨rfl, ea2⟩ := ea
        replace ea2 := Lib.hid ea2
        have ck := fa _ _ hx
        have hst := hcs.out k hkl
        have hcl1 := hcl.out k hk
        have cA := hA.cell (o := k) (u8s_get _ k _ (get_of_lt 0 (by rw [hcl1]; exact hkl)))
        have fA := hA.free k
        have hBw := hB3.out.trans (hO.below (B := w.heap.size) sB (fun q hq e => by omega))
        have hend2' : 255 < (R.line (ds.getD k 0)).hist.length → post (.returned (.tuple #[.slice none 0 0, .int .i64 9])) wr := fun h => hend2.out wr k hBw hr.out hkl h
        have hA2 := hA.set k (.int .u8 ((dg.getD k 0 : Nat) : Int))
        rw [← u8s_set, hst] at hA2
        have hO3 := hO.setCell (a := ⟨w3.heap.size, k, none⟩) (fun h => rfl) (.int .u8 ((dg.getD k 0 : Nat) : Int))
        have hall2 : (R.line (ds.getD k 0)).hist.length ≤ 255 → ∀ j, j < k + 1 → (R.line (ds.getD j 0)).hist.length ≤ 255 := fun h j hj => by
          by_cases e : j = k
          · subst e; exact h
          · exact hall j (by omega)
        generalize ds.getD k 0 = d at *
        generalize (R.line d).hist.length = hl at *
        generalize dg.getD k 0 = dk at *
        replace hA2 := Lib.hid hA2
        replace hO3 := Lib.hid hO3
        replace hall2 := Lib.hid hall2
        replace hend2' := Lib.hid hend2'
        clear hA hO hall fa hx hst hcl1 hBw
        generalize (chTo dg k).getD k 0 = old at *
        by_cases h255 : 255 < hl
        · have d1 : decide (255 < (hl : Int)) = true := decide_eq_true (by omega)
          have hx := Lib.hid (hend2'.out h255)
          clear hall2 hA2 hO3 hend2'
          go_wp2_with fail
          exact hx.out
        · have d1 : decide (255 < (hl : Int)) = false := decide_eq_false (by omega)
          have hrel : ∃ k' : Nat, k' ≤ ds.length ∧ Value.int .i64 ((k : Int) + 1) = .int .i64 (k' : Int) ∧ (∀ j, j < k' → (R.line (ds.getD j 0)).hist.length ≤ 255) ∧ Has (wr.setCell ⟨w3.heap.size, k, none⟩ (.int .u8 (dk : Int))) w3.heap.size (u8s (chTo dg k')) 5 ∧ Only (fun q => q = w3.heap.size) w3 (wr.setCell ⟨w3.heap.size, k, none⟩ (.int .u8 (dk : Int))) :=
            ⟨k + 1, by omega, rfl, hall2.out (by omega), hA2.out, hO3.out⟩
          replace hrel := Lib.hid hrel
          have d2 : 0 ≤ (dk : Int) ∧ (dk : Int) ≤ 255 := by omega
          clear hall2 hA2 hO3
          go_wp2_with fail
          refine ⟨hrel.out, ?_⟩
          simp [intOf]; omega
      · obtain rfl : k = ds.length := by omega
        have hx := Lib.hid (hend3.out wr w3.heap.size (hB3.out.trans (hO.below (B := w.heap.size) sB (fun q hq e => by omega))) hr.out hall (by have := hA; rw [hcz.out] at this; exact this) sB)
        clear hA hO hall
        go_wp2_with fail
        exact hx.out
  · rw [decide_eq_false hr] at hsp3
    replace hsp3 := Lib.hid hsp3
    replace hr := Lib.hid hr
    go_wp2_with fail
    refine hsp3.out.out.mono ?_
    rintro e w3 ⟨b, rfl, _, _, _, hB3⟩
    have hx := Lib.hid (hend1.out w3 hB3 hr.out)
    clear hB3 hsp3
    go_wp2_with fail
    exact hx.out
end Go.Proofs.Ytikjpklbbjmioaa
