/- Walks: the undo log's entries, load. -/
import Derived.Test.YtjmdibgncaljaaaUI
namespace Go.Proofs.Ytjmdibgncaljaaa
open Go.RowKit Go.Lib Dev
variable {w : World} {F : Own} {o T : Nat} {L : Lay} {R : Dv} {lb : Nat}
theorem getD_map {α β : Type} (f : α → β) (l : List α) (i : Nat) (a : α) (h : i < l.length) : (l.map f)[i]? = some (f (l.getD i a)) := by
  rw [List.getElem?_map, List.getD, List.getElem?_eq_getElem h]; rfl
def EntP (w : World) (S : List (Nat × Nat)) (e : Ending) (w' : World) : Prop := ∃ sa sc, e = .returned (.tuple #[.slice sa S.length sc, .int .i64 0]) ∧ RowB w 133 2 S.length (wcells S) sa sc w'
set_option maxHeartbeats 8000000 in
set_option maxRecDepth 100000 in
theorem uentries_any (h : DevSt w F o L T R) (hL : Live R) (he0 : R.errs.getD 0 0 = 0) (hl : R.lines.length = 10) (hg : LogAt w lb (L.tb 0)) : Calls Try.prog 65 #[.pointer (some ⟨lb, 0, none⟩)] w (EntP w (savedV R)) := by
  generalize hpost : EntP w (savedV R) = post
  obtain ⟨S, hS⟩ : ∃ S, savedV R = S := ⟨_, rfl⟩
  have hfin : ∀ sa sc w', RowB w 133 2 S.length (wcells S) sa sc w' → post (.returned (.tuple #[.slice sa S.length sc, .int .i64 0])) w' := fun sa sc w' h => by rw [← hpost, hS]; exact ⟨sa, sc, rfl, h⟩
  clear hpost
  have hnone := Lib.hid (unone_any hg)
  have herr : ∀ wx, Below w.heap.size w wx → Calls Try.prog 149 #[.pointer (some ⟨L.tb 0, 0, none⟩)] wx (fun e w' => e = .returned (.int .i64 0) ∧ wx = w') := by
    intro wx hb
    have h2 : DevSt wx F o L T R := h.below hb
    have h3 := err_any h2 (t := 0) (by decide)
    rw [he0] at h3
    exact h3
  have hsv := usaved_any h hL hl hg
  rw [hS] at hsv
  have hms := fun w => m_err ⟨L.tb 0, 0, none⟩ w
  have c0 := Has.cell hg (o := 0) rfl
  have kg : ∀ wx, Below w.heap.size w wx → LogAt wx lb (L.tb 0) := fun wx hb => hg.below hb
  have h0 := Lib.hid (herr w (Below.refl _ _))
  replace herr := Lib.hid herr
  replace hsv := Lib.hid hsv
  replace hfin := Lib.hid hfin
  replace kg := Lib.hid kg
  clear h hL hg
  go_enter Try.func65, Try.ntmps65
  go_wp2_with fail
  refine hnone.out.mono ?_
  rintro e w' ⟨rfl, rfl⟩
  go_wp2_with fail
  refine h0.out.mono ?_
  rintro e w' ⟨rfl, rfl⟩
  go_wp2_with fail
  refine hsv.out.mono ?_
  rintro e w2 ⟨sa, sc, rfl, hB⟩
  have h2 := Lib.hid (herr.out w2 hB.b)
  have c2 := Has.cell (kg.out w2 hB.b) (o := 0) rfl
  have hf := Lib.hid (hfin.out sa sc w2 hB)
  clear hB c0
  go_wp2_with fail
  refine h2.out.mono ?_
  rintro e w' ⟨rfl, rfl⟩
  go_wp2_with fail
  first | exact hf.out | (go_ret; exact hf.out)
theorem RowB.from {w w2 wr : World} {T : TypeId} {size n : Nat} {xs : List Value} {sa : Option Addr} {sc : Nat} (h : RowB w2 T size n xs sa sc wr) (hb : Below w.heap.size w w2) : RowB w T size n xs sa sc wr :=
  ⟨h.o, fun k hk => by have := h.ob k hk; have := hb.size; omega, hb.trans (h.b.mono hb.size)⟩
/-- The entries that name words outside of the log. -/
def wsV (S : List (Nat × Nat)) : List (Nat × Nat) := S.filter fun e => okOff e.1
def LoadP (w : World) (S : List (Nat × Nat)) (e : Ending) (w' : World) : Prop := ∃ sa sc, e = .returned (.tuple #[.slice sa (wsV S).length sc, .bool (decide (S.length = 0)), .int .i64 0]) ∧ RowB w 133 2 (wsV S).length (wcells (wsV S)) sa sc w'
theorem wsV_snoc (S : List (Nat × Nat)) (p : Nat × Nat) : wsV (S ++ [p]) = if okOff p.1 then wsV S ++ [p] else wsV S := by
  unfold wsV
  rw [List.filter_append]
  cases h : okOff p.1 <;> simp [h]
set_option maxHeartbeats 8000000 in
set_option maxRecDepth 100000 in
theorem uload_any (h : DevSt w F o L T R) (hL : Live R) (he0 : R.errs.getD 0 0 = 0) (hl : R.lines.length = 10) (hg : LogAt w lb (L.tb 0)) (hSb : ∀ p ∈ savedV R, p.1 < 18446744073709551616) : Calls Try.prog 73 #[.pointer (some ⟨lb, 0, none⟩)] w (LoadP w (savedV R)) := by
  generalize hpost : LoadP w (savedV R) = post
  have hent := uentries_any h hL he0 hl hg
  obtain ⟨S, hS⟩ : ∃ S, savedV R = S := ⟨_, rfl⟩
  have hS8 : S.length ≤ 8 := by rw [← hS, savedV_len]; exact cntV2_le R
  rw [hS] at hpost hent hSb
  obtain ⟨n, hn⟩ : ∃ n, S.length = n := ⟨_, rfl⟩
  have hfin : ∀ m (hm : (wsV S).length = m) sa sc w', RowB w 133 2 m (wcells (wsV S)) sa sc w' → post (.returned (.tuple #[.slice sa m sc, .bool (decide (n = 0)), .int .i64 0])) w' := fun m hm sa sc w' h => by subst hm; rw [← hpost, ← hn]; exact ⟨sa, sc, rfl, h⟩
  clear hpost
  have hall : ∀ wx, Below w.heap.size w wx → ∀ off : Nat, off < 18446744073709551616 → Calls Try.prog 64 #[.pointer (some ⟨lb, 0, none⟩), .int .u64 (off : Int)] wx (RP wx (.bool (okOff off))) := by
    intro wx hb off ho
    have h2 : DevSt wx F o L T R := h.below hb
    exact uallowed_any h2 hl (hg.below hb) off ho
  replace hfin := Lib.hid hfin
  replace hall := Lib.hid hall
  replace hent := Lib.hid hent
  replace hSb := Lib.hid hSb
  rw [hn] at hS8
  clear h hL hg hS hl
  replace hn := Lib.hid hn
  go_enter Try.func73, Try.ntmps73
  go_wp2_with fail
  refine hent.out.mono ?_
  rintro e w2 ⟨ea, ec, rfl, hB⟩
  rw [hn.out] at hB ⊢
  have hb2 := hB.b
  have hr2 := hB.rd
  have hst0 := Lib.hid (RowB.nil w2 133 2)
  have hz : ((n : Int) == 0) = decide (n = 0) := by
    by_cases e : n = 0
    · simp [e]
    · rw [decide_eq_false e]; simp; exact e
  have hget : ∀ k, k < n → ∃ bl ol cl x y, ea = some ⟨bl, ol, none⟩ ∧ ec = cl ∧ S[k]? = some (x, y) ∧ x < 18446744073709551616 ∧ ∀ wx, Below w2.heap.size w2 wx → wx.cell? ⟨bl, ol + k * 2, none⟩ = some (.int .u64 (x : Int)) ∧ wx.cell? ⟨bl, ol + k * 2 + 1, none⟩ = some (.int .u64 (y : Int)) := fun k hk => by
    obtain ⟨bl, ol, cl, e1, h1⟩ := hr2.cells (by omega)
    simp only [Value.slice.injEq, true_and] at e1
    obtain ⟨⟨x, y⟩, hx⟩ : ∃ q, S[k]? = some q := ⟨_, List.getElem?_eq_getElem (by rw [hn.out]; exact hk)⟩
    obtain ⟨g1, g2⟩ := wcells_get S k _ hx
    have k1 := h1 _ _ g1
    have k2 := h1 _ _ g2
    rw [← Nat.add_assoc] at k2
    exact ⟨bl, ol, cl, x, y, e1.1, e1.2, hx, hSb.out _ (List.mem_of_getElem? hx), fun wx hb => ⟨(hb.cell (World.block_lt_of_cell? _ _ k1)).trans k1, (hb.cell (World.block_lt_of_cell? _ _ k2)).trans k2⟩⟩
  replace hget := Lib.hid hget
  replace hb2 := Lib.hid hb2
  replace hz := Lib.hid hz
  clear hB hr2 hent hSb
  go_wp2_with fail
  go_loopw [7, 20] (fun s7 s20 wr => ∃ (k m : Nat) (oa : Option Addr) (oc : Nat), k ≤ n ∧ s20 = .int .i64 (k : Int) ∧ s7 = .slice oa m oc ∧ m = (wsV (S.take k)).length ∧ RowB w2 133 2 m (wcells (wsV (S.take k))) oa oc wr) (fun _ s20 _ => n - (RowKit.intOf s20).toNat)
  case atStart => exact ⟨0, 0, none, 0, by omega, rfl, rfl, rfl, hst0.out⟩
  case round =>
    clear hst0
    obtain ⟨k, m, oa, oc, hk, rfl, rfl, hm, hP⟩ := hrel
    by_cases hlt : ¬ (k < n)
    · have hkn : k = n := by omega
      subst hkn
      rw [List.take_of_length_le (Nat.le_of_eq hn.out)] at hP hm
      have hf := Lib.hid (hfin.out m hm.symm _ _ _ (hP.from hb2.out))
      have kd : decide ((k : Int) < (k : Int)) = false := decide_eq_false (by omega)
      have kk1 : ¬ (k : Int) < (k : Int) := by omega
      clear hP hm
      go_wp2_with fail
      refine bodyPost_end (results_tmp3 rfl _ _ _) rfl ?_
      have := hf.out
      rw [← hz.out] at this
      exact this
    · replace hlt := Classical.not_not.1 hlt
      have kd : decide ((k : Int) < (n : Int)) = true := decide_eq_true (by omega)
      have k1 : (k : Int) < (n : Int) := by omega
      have kw := Lib.hid (show wrap64 ((k : Int) + 1) = ((k + 1 : Nat) : Int) from by unfold wrap64; omega)
      obtain ⟨bl, ol, cl, x, y, rfl, rfl, hx, hx2, hc⟩ := hget.out k hlt
      obtain ⟨c0, c1⟩ := hc wr hP.b
      have htk : S.take (k + 1) = S.take k ++ [(x, y)] := by rw [List.take_add_one, hx]; rfl
      have htw := wsV_snoc (S.take k) (x, y)
      rw [← htk] at htw
      obtain ⟨PS, hPS⟩ : ∃ PS, wsV (S.take k) = PS := ⟨_, rfl⟩
      rw [hPS] at hP htw hm
      have hm8 : m ≤ 8 := by
        rw [hm, ← hPS]
        have h1 : (wsV (S.take k)).length ≤ (S.take k).length := by unfold wsV; exact List.length_filter_le _ _
        have h2 : (S.take k).length ≤ k := List.length_take_le _ _
        omega
      obtain ⟨W1, hW1⟩ : ∃ W1, W1 = wr.alloc (.cells #[.int .u64 (x : Int), .int .u64 (y : Int)] 133) := ⟨_, rfl⟩
      have hb1 : Below wr.heap.size wr W1 := by rw [hW1]; exact (Below.refl _ _).alloc (Nat.le_refl _) _
      have hN1 : Has W1 wr.heap.size [.int .u64 (x : Int), .int .u64 (y : Int)] 133 := by rw [hW1]; exact Has.new wr _ _
      have hP1 := hP.below hb1
      have hal := hall.out W1 (hb2.out.trans (hP1.b.mono hb2.out.size)) x hx2
      replace hP1 := Lib.hid hP1
      replace htw := Lib.hid htw
      replace hal := Lib.hid hal
      replace hm := Lib.hid hm
      replace hW1 := Lib.hid hW1.symm
      have d0 := hN1.cell (o := 0) rfl
      clear hP hb1 hPS htk
      go_wp2_with fail
      rw [hW1.out]
      go_wp2_with fail
      refine hal.out.mono ?_
      rintro e w5 ⟨rfl, hB5⟩
      have hP5 := hP1.out.below hB5
      have hN5 := Has.only hN1 (Only.of_below hB5) (Nat.not_le.2 hN1.lt)
      cases hok : okOff x with
      | false =>
        have htw2 := htw.out
        rw [show okOff (x, y).1 = false from hok] at htw2
        have hrel' := Lib.hid (show RowB w2 133 2 m (wcells (wsV (S.take (k + 1)))) oa oc w5 ∧ m = (wsV (S.take (k + 1))).length from ⟨by rw [htw2]; exact hP5, by rw [htw2]; exact hm.out⟩)
        clear hP5 hN5 hal hB5 hN1 d0
        go_wp2_with fail
        first | rw [kw.out] | skip
        go_roundw
        case rel => exact ⟨k + 1, m, oa, oc, by omega, rfl, rfl, hrel'.out.2, hrel'.out.1⟩
        case measure => simp [RowKit.intOf]; try omega
      | true =>
        have htw2 := htw.out
        rw [show okOff (x, y).1 = true from hok, if_pos rfl] at htw2
        have hb6 := (Below.refl w5.heap.size w5).alloc (Nat.le_refl _) (.cells #[.int .u64 (x : Int), .int .u64 (y : Int)] 133)
        have hP6 := hP5.below hb6
        have hN6 := Has.new w5 [.int .u64 (x : Int), .int .u64 (y : Int)] 133
        have ho6 := hP6.o
        have hby6 : (m + 1) * 16 ≤ 140737488355328 := by omega
        have e0 := hN5.cell (o := 0) rfl
        have e1 := hN5.cell (o := 1) rfl
        replace hP6 := Lib.hid hP6
        replace htw2 := Lib.hid htw2
        clear hP5 hb6 hal hB5 hN1 d0
        go_wp2_with (at_builtin; refine wpList_app rfl (.tmp 28) (.tmp 30) 88 rfl 133 (.agg #[.int .u64 0, .int .u64 0]) 2 16 Try.underlying88 infoWr2 rfl (by decide) (by decide) oa m oc (wcells PS) (by exact ho6) rfl _ 1 1 [.int .u64 (x : Int), .int .u64 (y : Int)] rfl rfl (by exact newsIn hN6) (by simp [Value.oneCell']) (by exact hby6) ?_)
        intro oa' oc' w7 own7 only7 fresh7
        have hrel7 := Lib.hid (show RowB w2 133 2 (m + 1) (wcells (wsV (S.take (k + 1)))) oa' oc' w7 ∧ m + 1 = (wsV (S.take (k + 1))).length from ⟨by rw [htw2.out, wcells_snoc]; exact hP6.out.app own7 only7 (fun j hj => by have := fresh7 j hj; simpa using this), by rw [htw2.out, List.length_append, ← hm.out]; rfl⟩)
        clear own7 only7 fresh7 ho6 hN6
        go_wp2_with fail
        first | rw [kw.out] | skip
        go_roundw
        case rel => exact ⟨k + 1, m + 1, oa', oc', by omega, rfl, rfl, hrel7.out.2, hrel7.out.1⟩
        case measure => simp [RowKit.intOf]; try omega
end Go.Proofs.Ytjmdibgncaljaaa
