/- Walks: the undo log's Plan. -/
import Derived.Test.YtjmdibgncaljaaaUL
namespace Go.Proofs.Ytjmdibgncaljaaa
open Go.RowKit Go.Lib Dev
variable {w : World} {F : Own} {o T : Nat} {L : Lay} {R : Dv} {lb : Nat}
def savL (E F : List (Nat × Nat)) (fl : List Nat) : List In := storesI (entW E.length F) fl ++ storesI [(0, E.length + F.length)] [0]
def PlanP (w : World) (E F : List (Nat × Nat)) (e : Ending) (w' : World) : Prop := Below w.heap.size w w' ∧
  ((8 < E.length + F.length ∧ e = .returned (.tuple #[.slice none 0 0, .int .i64 4])) ∨
  (E.length + F.length ≤ 8 ∧ F = [] ∧ e = .returned (.tuple #[.slice none 0 0, .int .i64 0])) ∨
  (E.length + F.length ≤ 8 ∧ F ≠ [] ∧ ∃ oa oc fl, e = .returned (.tuple #[.slice oa (savL E F fl).length oc, .int .i64 0]) ∧ Rd w' (.slice oa (savL E F fl).length oc) (savL E F fl).length (inCells (savL E F fl)) ∧
    (∀ y, y ∈ fl ↔ y ∈ (entW E.length F).map fun p => p.1 / 64 * 64) ∧ fl.length ≤ 6))
theorem getOff {ws : List (Nat × Nat)} {w : World} {sa : Option Addr} {n sc : Nat} (hr : Rd w (.slice sa n sc) n (wcells ws)) (hn : ws.length = n) : ∀ k, k < n → ∃ bl ol x y, sa = some ⟨bl, ol, none⟩ ∧ ws[k]? = some (x, y) ∧ ∀ wx, Below w.heap.size w wx → wx.cell? ⟨bl, ol + k * 2, none⟩ = some (.int .u64 (x : Int)) ∧ wx.cell? ⟨bl, ol + k * 2 + 1, none⟩ = some (.int .u64 (y : Int)) := fun k hk => by
  obtain ⟨bl, ol, cl, e1, h1⟩ := hr.cells (by omega)
  simp only [Value.slice.injEq, true_and] at e1
  obtain ⟨⟨x, y⟩, hx⟩ : ∃ q, ws[k]? = some q := ⟨_, List.getElem?_eq_getElem (by omega)⟩
  obtain ⟨g1, g2⟩ := wcells_get ws k _ hx
  have k1 := h1 _ _ g1
  have k2 := h1 _ _ g2
  rw [← Nat.add_assoc] at k2
  exact ⟨bl, ol, x, y, e1.1, hx, fun wx hb => ⟨(hb.cell (World.block_lt_of_cell? _ _ k1)).trans k1, (hb.cell (World.block_lt_of_cell? _ _ k2)).trans k2⟩⟩
theorem getU64 {zs : List Nat} {w : World} {sa : Option Addr} {n sc : Nat} (hr : Rd w (.slice sa n sc) n (u64s zs)) (hn : zs.length = n) : ∀ k, k < n → ∃ bl ol x, sa = some ⟨bl, ol, none⟩ ∧ zs[k]? = some x ∧ ∀ wx, Below w.heap.size w wx → wx.cell? ⟨bl, ol + k, none⟩ = some (.int .u64 (x : Int)) := fun k hk => by
  obtain ⟨bl, ol, cl, e1, h1⟩ := hr.cells (by omega)
  simp only [Value.slice.injEq, true_and] at e1
  obtain ⟨x, hx⟩ : ∃ q, zs[k]? = some q := ⟨_, List.getElem?_eq_getElem (by omega)⟩
  have k1 := h1 _ _ (u64s_get _ _ _ hx)
  exact ⟨bl, ol, x, e1.1, hx, fun wx hb => (hb.cell (World.block_lt_of_cell? _ _ k1)).trans k1⟩
set_option maxHeartbeats 8000000 in
set_option maxRecDepth 100000 in
theorem uplan_any (h : DevSt w F o L T R) (hL : Live R) (he0 : R.errs.getD 0 0 = 0) (hl : R.lines.length = 10) (hg : LogAt w lb (L.tb 0)) (hSb : ∀ p ∈ savedV R, okOff p.1 = true)
    (offs : List Nat) (ho3 : offs.length ≤ 3) (hok : ∀ x ∈ offs, okOff x = true) (ra : Option Addr) (rc : Nat) (hr : Rd w (.slice ra offs.length rc) offs.length (u64s offs)) :
    Calls Try.prog 25 #[.pointer (some ⟨lb, 0, none⟩), .slice ra offs.length rc] w (PlanP w (savedV R) (freshF R (savedV R) offs)) := by
  have hlt : ∀ p ∈ savedV R, p.1 < 18446744073709551616 := fun p hp => by have := okOff_iff.1 (hSb p hp); omega
  have hent : ∀ wx, Below w.heap.size w wx → Calls Try.prog 65 #[.pointer (some ⟨lb, 0, none⟩)] wx (EntP wx (savedV R)) := by
    intro wx hb
    have h2 : DevSt wx F o L T R := h.below hb
    exact uentries_any h2 hL he0 hl (hg.below hb)
  have herr : ∀ wx, Below w.heap.size w wx → Calls Try.prog 149 #[.pointer (some ⟨L.tb 0, 0, none⟩)] wx (fun e w' => e = .returned (.int .i64 0) ∧ wx = w') := by
    intro wx hb
    have h2 : DevSt wx F o L T R := h.below hb
    have h3 := err_any h2 (t := 0) (by decide)
    rw [he0] at h3
    exact h3
  have hload : ∀ wx, Below w.heap.size w wx → ∀ off : Nat, okOff off = true → Calls Try.prog 63 #[.pointer (some ⟨L.tb 0, 0, none⟩), .int .u64 (off : Int)] wx (RS wx (.int .u64 ((valueP R off : Nat) : Int))) := by
    intro wx hb off h8
    have h2 : DevSt wx F o L T R := h.below hb
    have h6 := okOff_iff.1 h8
    exact load_live (t := 0) h2 hL (by decide) h6.1 (by rw [hl]; exact h6.2.2) (by rw [hl]; decide)
  have hall : ∀ wx, Below w.heap.size w wx → ∀ off : Nat, okOff off = true → Calls Try.prog 64 #[.pointer (some ⟨lb, 0, none⟩), .int .u64 (off : Int)] wx (RP wx (.bool true)) := by
    intro wx hb off ho
    have h2 : DevSt wx F o L T R := h.below hb
    have h3 := uallowed_any h2 hl (hg.below hb) off (by have := okOff_iff.1 ho; omega)
    rw [ho] at h3
    exact h3
  have hoff : ∀ wx, Below w.heap.size w wx → ∀ i : Nat, i < 1000 → Calls Try.prog 66 #[.pointer (some ⟨lb, 0, none⟩), .int .i64 (i : Int)] wx (RS wx (.int .u64 ((64 + 16 * i : Nat) : Int))) := fun wx hb i hi => uoff_any (hg.below hb) i hi
  have hcap := fun wx (hb : Below w.heap.size w wx) => ucap_any (hg.below hb)
  have hcnt : ∀ wx, Below w.heap.size w wx → ∀ n : Nat, n ≤ 1000 → Calls Try.prog 69 #[.pointer (some ⟨lb, 0, none⟩), .int .i64 (n : Int)] wx (StoP wx [(0, n)]) := fun wx hb n hn => usetcount_any (hg.below hb) n hn
  have hnone := Lib.hid (unone_any hg)
  have hmsl := fun w => m_load ⟨L.tb 0, 0, none⟩ w
  have hmse := fun w => m_err ⟨L.tb 0, 0, none⟩ w
  have kg : ∀ wx, Below w.heap.size w wx → LogAt wx lb (L.tb 0) := fun wx hb => hg.below hb
  obtain ⟨E, hE⟩ : ∃ E, savedV R = E := ⟨_, rfl⟩
  have hE8 : E.length ≤ 8 := by rw [← hE, savedV_len]; exact cntV2_le R
  obtain ⟨ne, hne⟩ : ∃ ne, E.length = ne := ⟨_, rfl⟩
  obtain ⟨n, hn⟩ : ∃ n, offs.length = n := ⟨_, rfl⟩
  rw [hE] at hent hSb hlt ⊢
  rw [hn] at hr ho3 ⊢
  rw [hne] at hE8
  have hgo := getU64 hr hn
  have hhd : ∀ (k x : Nat), offs[k]? = some x → okOff x = true := fun k x hx => hok x (List.mem_of_getElem? hx)
  have hEd : ∀ (k x y : Nat), E[k]? = some (x, y) → x < 18446744073709551616 := fun k x y hx => hlt _ (List.mem_of_getElem? hx)
  generalize hpost : PlanP w E (freshF R E offs) = post
  replace hpost := Lib.hid hpost
  replace hent := Lib.hid hent
  replace herr := Lib.hid herr
  replace hload := Lib.hid hload
  replace hall := Lib.hid hall
  replace hoff := Lib.hid hoff
  replace hcap := Lib.hid hcap
  replace hcnt := Lib.hid hcnt
  replace kg := Lib.hid kg
  replace hgo := Lib.hid hgo
  replace hhd := Lib.hid hhd
  replace hEd := Lib.hid hEd
  replace hE := Lib.hid hE
  replace hne := Lib.hid hne
  replace hn := Lib.hid hn
  replace hmsl := Lib.hid hmsl
  replace hmse := Lib.hid hmse
  have hb0 := Lib.hid (Below.refl w.heap.size w)
  clear h hL he0 hl hg hSb hlt hok hr
  go_enter Try.func25, Try.ntmps25
  go_wp2_with fail
  refine hnone.out.mono ?_
  rintro e w' ⟨rfl, rfl⟩
  go_wp2_with fail
  go_loopw [26] (fun s26 wr => ∃ (k : Nat), k ≤ n ∧ s26 = .int .i64 (k : Int) ∧ Below w.heap.size w wr) (fun s26 _ => n - (RowKit.intOf s26).toNat)
  case atStart => exact ⟨0, by omega, rfl, hb0.out⟩
  case round =>
    clear hb0 hnone
    obtain ⟨k, hk, rfl, hB⟩ := hrel
    by_cases hlt : (k < n)
    · have kd : decide ((k : Int) < (n : Int)) = true := decide_eq_true (by omega)
      have k1 : (k : Int) < (n : Int) := by omega
      have kw := Lib.hid (show wrap64 ((k : Int) + 1) = ((k + 1 : Nat) : Int) from by unfold wrap64; omega)
      obtain ⟨bl, ol, x, rfl, hx, hc⟩ := hgo.out k hlt
      have c0 := hc wr hB
      have hal := Lib.hid (hall.out wr hB x (hhd.out k x hx))
      replace hB := Lib.hid hB
      replace hc := Lib.hid hc
      go_wp2_with fail
      refine hal.out.mono ?_
      rintro e w5 ⟨rfl, hB5⟩
      have hB6 := Lib.hid (hB.out.trans (hB5.mono hB.out.size))
      clear hB5 hal c0
      go_wp2_with fail
      first | rw [kw.out] | skip
      go_roundw
      case rel => exact ⟨k + 1, by omega, rfl, hB6.out⟩
      case measure => simp [RowKit.intOf]; try omega
    · have kd : decide ((k : Int) < (n : Int)) = false := decide_eq_false (by omega)
      have kk1 : ¬ (k : Int) < (n : Int) := by omega
      have hkn : n = k := by omega
      subst hkn
      have hen := Lib.hid (hent.out wr hB)
      replace hB := Lib.hid hB
      clear hent hall
      go_wp2_with fail
      refine hen.out.mono ?_
      rintro e w2 ⟨ea, ec, rfl, hE2⟩
      have hb2 := hB.out.trans (hE2.b.mono hB.out.size)
      have hge := getOff hE2.rd rfl
      rw [hne.out] at hge ⊢
      obtain ⟨W3, hW3⟩ : ∃ W3, W3 = w2.alloc (.map #[] 0) := ⟨_, rfl⟩
      have hb3 : Below w2.heap.size w2 W3 := by rw [hW3]; exact (Below.refl _ _).alloc (Nat.le_refl _) _
      have hS3 : Seen64 W3 w2.heap.size [] := by rw [hW3]; exact Seen64.made w2
      have hmm := @run_makeMap Try.prog
      obtain ⟨bm, hbm⟩ : ∃ bm, bm = w2.heap.size := ⟨_, rfl⟩
      have hst0 := Lib.hid (show Seen64 W3 bm [] ∧ Below w2.heap.size w2 W3 from ⟨by rw [hbm]; exact hS3, hb3⟩)
      replace hW3 := Lib.hid hW3.symm
      replace hb2 := Lib.hid hb2
      replace hge := Lib.hid hge
      clear hB hE2 hb3 hS3 hen
      go_wp2_with fail
      rw [hW3.out, ← hbm]
      replace hbm := Lib.hid hbm
      clear hmm
      go_loopw [46] (fun s46 wr => ∃ (k : Nat), k ≤ ne ∧ s46 = .int .i64 (k : Int) ∧ Seen64 wr bm ((E.take k).map Prod.fst) ∧ Below w2.heap.size w2 wr) (fun s46 _ => ne - (RowKit.intOf s46).toNat)
      case atStart => exact ⟨0, by omega, rfl, hst0.out⟩
      case round =>
        clear hst0 hW3
        obtain ⟨k, hk, rfl, hS, hB⟩ := hrel
        by_cases hlt : (k < ne)
        · have kd : decide ((k : Int) < (ne : Int)) = true := decide_eq_true (by omega)
          have k1 : (k : Int) < (ne : Int) := by omega
          have kw := Lib.hid (show wrap64 ((k : Int) + 1) = ((k + 1 : Nat) : Int) from by unfold wrap64; omega)
          obtain ⟨bl, ol, x, y, rfl, hx, hc⟩ := hge.out k hlt
          obtain ⟨c0, c1⟩ := hc _ hB
          have hx2 := hEd.out k x y hx
          have htk : (E.take (k + 1)).map Prod.fst = (E.take k).map Prod.fst ++ [x] := by rw [List.take_add_one, hx]; simp
          obtain ⟨KS, hKS⟩ : ∃ KS, (E.take k).map Prod.fst = KS := ⟨_, rfl⟩
          have hKl : KS.length ≤ 100 := by rw [← hKS]; simp; omega
          rw [hKS] at hS htk
          obtain ⟨W1, hW1⟩ : ∃ W1, W1 = wr.alloc (.cells #[.int .u64 (x : Int), .int .u64 (y : Int)] 133) := ⟨_, rfl⟩
          have hb1 : Below wr.heap.size wr W1 := by rw [hW1]; exact (Below.refl _ _).alloc (Nat.le_refl _) _
          have hN1 : Has W1 wr.heap.size [.int .u64 (x : Int), .int .u64 (y : Int)] 133 := by rw [hW1]; exact Has.new wr _ _
          obtain ⟨w7, hr7, hS7, hO7⟩ := (hS.below hb1).put hKl hx2
          have hb7 : Below w2.heap.size w2 w7 := (hB.trans (hb1.mono hB.size)).trans (hO7.below (B := w2.heap.size) (Nat.le_trans hB.size hb1.size) (fun j _ e => by rw [← hbm.out]; omega))
          have hrel7 := Lib.hid (show Seen64 w7 bm ((E.take (k + 1)).map Prod.fst) ∧ Below w2.heap.size w2 w7 from ⟨by rw [htk]; exact hS7, hb7⟩)
          have d0 := hN1.cell (o := 0) rfl
          replace hr7 := Lib.hid hr7
          replace hW1 := Lib.hid hW1.symm
          replace hc := Lib.hid hc
          clear hS hB hS7 hO7 hb7 hb1 hN1 htk hKS
          go_upto_region 16 with fail
          rw [hW1.out]
          iterate 10 go_step
          refine wpList_updateM (w' := w7) rfl (.tmp 50) (.tmp 52) (.const (.bool true)) 152 rfl ?_ ?_
          · go_simp
            exact hr7.out
          simp only [Act.put]
          go_wp2_with fail
          first | rw [kw.out] | skip
          go_roundw
          case rel => exact ⟨k + 1, by omega, rfl, hrel7.out⟩
          case measure => simp [RowKit.intOf]; try omega
        · have kd : decide ((k : Int) < (ne : Int)) = false := decide_eq_false (by omega)
          have kk1 : ¬ (k : Int) < (ne : Int) := by omega
          have hkn : k = ne := by omega
          subst hkn
          rw [List.take_of_length_le (Nat.le_of_eq hne.out)] at hS
          have hK0l : (E.map Prod.fst).length = k := by rw [List.length_map]; exact hne.out
          obtain ⟨K0, hK0⟩ : ∃ K0, E.map Prod.fst = K0 := ⟨_, rfl⟩
          rw [hK0] at hS hK0l
          have hP0 : PlX w2 K0 [] 0 none 0 wr := ⟨rfl, by rw [← hbm.out]; exact hS, World.ownsRow_nil _ _ _ _, (fun j hj => by cases hj), hB⟩
          replace hP0 := Lib.hid hP0
          replace hK0 := Lib.hid hK0
          clear hS hB
          go_wp2_with fail
          go_loopw [13, 56] (fun s13 s56 wr => ∃ (q m : Nat) (sa : Option Addr) (sc : Nat), q ≤ n ∧ m ≤ q ∧ s56 = .int .i64 (q : Int) ∧ s13 = .slice sa m sc ∧ PlX w2 (keysO K0 (offs.take q)) ((freshO K0 (offs.take q)).map fun o => (o, valueP R o)) m sa sc wr) (fun _ s56 _ => n - (RowKit.intOf s56).toNat)
          case atStart => exact ⟨0, 0, none, 0, by omega, Nat.le_refl _, rfl, rfl, hP0.out⟩
          case round =>
            clear hP0
            obtain ⟨q, m, sa, sc, hq, hmq, rfl, rfl, hP⟩ := hrel
            by_cases hlt : (q < n)
            · have kd : decide ((q : Int) < (n : Int)) = true := decide_eq_true (by omega)
              have k1 : (q : Int) < (n : Int) := by omega
              have kw := Lib.hid (show wrap64 ((q : Int) + 1) = ((q + 1 : Nat) : Int) from by unfold wrap64; omega)
              obtain ⟨bl2, ol2, x, rfl, hx, hc⟩ := hgo.out q hlt
              have c0 := hc _ (hb2.out.trans (hP.b.mono hb2.out.size))
              have hokx := hhd.out q x hx
              have hx2 : x < 18446744073709551616 := by have := okOff_iff.1 hokx; omega
              have htk : offs.take (q + 1) = offs.take q ++ [x] := by rw [List.take_add_one, hx]; rfl
              have hlook := hP.s.look hx2
              rw [hbm.out.symm] at hlook
              obtain ⟨KS, hKS⟩ : ∃ KS, keysO K0 (offs.take q) = KS := ⟨_, rfl⟩
              have hKl : KS.length ≤ 100 := by
                rw [← hKS]
                have h1 := keysO_len (offs.take q) K0
                have h2 : (offs.take q).length ≤ q := List.length_take_le _ _
                omega
              by_cases hin : x ∈ KS
              · have hf := freshO_in (offs.take q) K0 x (by rw [hKS]; exact hin)
                rw [hKS, decide_eq_true hin] at hlook
                rw [← htk] at hf
                have hrel' := Lib.hid (show PlX w2 (keysO K0 (offs.take (q + 1))) ((freshO K0 (offs.take (q + 1))).map fun o => (o, valueP R o)) m sa sc wr from by rw [hf.1, hf.2]; exact hP)
                replace hc := Lib.hid hc
                clear hP hf hKS htk hin
                go_wp2_with fail
                first | rw [kw.out] | skip
                go_roundw
                case rel => exact ⟨q + 1, m, sa, sc, by omega, by omega, rfl, rfl, hrel'.out⟩
                case measure => simp [RowKit.intOf]; try omega
              · have hf := freshO_out (offs.take q) K0 x (by rw [hKS]; exact hin)
                rw [hKS, decide_eq_false hin] at hlook
                rw [← htk, hKS] at hf
                obtain ⟨FS, hFS⟩ : ∃ FS, ((freshO K0 (offs.take q)).map fun o => (o, valueP R o)) = FS := ⟨_, rfl⟩
                rw [hKS, hFS] at hP
                obtain ⟨w7, hr7, hS7, hO7⟩ := hP.s.put hKl hx2
                have hP7 := hP.put hS7 hO7
                have hb7 := hb2.out.trans (hP7.b.mono hb2.out.size)
                have hld := hload.out w7 hb7 x hokx
                have l0 := Has.cell (kg.out w7 hb7) (o := 0) rfl
                obtain ⟨y, hy⟩ : ∃ y, valueP R x = y := ⟨_, rfl⟩
                have hfm : ((freshO K0 (offs.take (q + 1))).map fun o => (o, valueP R o)) = FS ++ [(x, y)] := by rw [hf.1, List.map_append, hFS, ← hy]; rfl
                rw [hy] at hld
                have hb8 := (Below.refl w7.heap.size w7).alloc (Nat.le_refl _) (.cells #[.int .u64 (x : Int), .int .u64 (y : Int)] 133)
                have hP8 := hP7.below hb8
                have hN8 := Has.new w7 [.int .u64 (x : Int), .int .u64 (y : Int)] 133
                have ho8 := hP8.o
                have hby8 : (m + 1) * 16 ≤ 140737488355328 := by omega
                have hf2 := Lib.hid hf.2
                replace hP8 := Lib.hid hP8
                replace hfm := Lib.hid hfm
                replace hr7 := Lib.hid hr7
                rw [← hbm.out] at hr7
                replace hc := Lib.hid hc
                replace hld := Lib.hid hld
                clear hP hf hKS htk hin hP7 hb7 hb8 hy hO7 hS7 hFS
                go_upto_region 23 with fail
                clear hlook
                iterate 7 go_step
                refine wpList_updateM (w' := w7) rfl (.tmp 64) (.tmp 65) (.const (.bool true)) 152 rfl ?_ ?_
                · go_simp
                  exact hr7.out
                simp only [Act.put]
                have hml := hmsl.out
                go_wp2_with fail
                refine hld.out.mono ?_
                rintro e w9 ⟨rfl, rfl⟩
                clear hml c0
                go_wp2_with (at_builtin; refine wpList_app rfl (.tmp 66) (.tmp 75) 88 rfl 133 (.agg #[.int .u64 0, .int .u64 0]) 2 16 Try.underlying88 infoWr2 rfl (by decide) (by decide) sa m sc (wcells FS) (by exact ho8) rfl _ 1 1 [.int .u64 (x : Int), .int .u64 (y : Int)] rfl rfl (by exact newsIn hN8) (by simp [Value.oneCell']) (by exact hby8) ?_)
                intro oa' oc' w10 own10 only10 fresh10
                have hrel' := Lib.hid (show PlX w2 (keysO K0 (offs.take (q + 1))) ((freshO K0 (offs.take (q + 1))).map fun o => (o, valueP R o)) (m + 1) oa' oc' w10 from by
                  rw [hfm.out, hf2.out]
                  exact hP8.out.app (p := (x, y)) own10 only10 (fun j hj => by have := fresh10 j hj; simpa using this))
                clear own10 only10 fresh10 ho8 hN8
                go_wp2_with fail
                first | rw [kw.out] | skip
                go_roundw
                case rel => exact ⟨q + 1, m + 1, oa', oc', by omega, by omega, rfl, rfl, hrel'.out⟩
                case measure => simp [RowKit.intOf]; try omega
            · have kd : decide ((q : Int) < (n : Int)) = false := decide_eq_false (by omega)
              have kk1 : ¬ (q : Int) < (n : Int) := by omega
              have hkn : n = q := by omega
              subst hkn
              rw [List.take_of_length_le (Nat.le_of_eq hn.out), show (freshO K0 offs).map (fun o => (o, valueP R o)) = freshF R E offs from by unfold freshF; rw [hK0.out]] at hP
              obtain ⟨FS, hFS⟩ : ∃ FS, freshF R E offs = FS := ⟨_, rfl⟩
              rw [hFS] at hP hpost
              have hm := hP.ln
              have hbw := hb2.out.trans (hP.b.mono hb2.out.size)
              have her := Lib.hid (herr.out wr hbw)
              have hcp := Lib.hid (hcap.out wr hbw)
              have l0 := Has.cell (kg.out wr hbw) (o := 0) rfl
              have hml := hmse.out
              have hkm : wrap64 ((k : Int) + (m : Int)) = ((k + m : Nat) : Int) := by unfold wrap64; omega
              have hgf := getOff (Rd.of_own hP.o) hm
              have hfin4 : 8 < k + m → post (.returned (.tuple #[.slice none 0 0, .int .i64 4])) wr := fun h => by
                rw [← hpost.out]
                exact ⟨hbw, .inl ⟨by rw [hne.out, hm]; exact h, rfl⟩⟩
              have hfin0 : k + m ≤ 8 → m = 0 → post (.returned (.tuple #[.slice none 0 0, .int .i64 0])) wr := fun h h0 => by
                rw [← hpost.out]
                exact ⟨hbw, .inr (.inl ⟨by rw [hne.out, hm]; exact h, List.length_eq_zero_iff.1 (by omega), rfl⟩)⟩
              have hfin1 : k + m ≤ 8 → m ≠ 0 → ∀ Q (hQ : (savL E FS [0]).length ≤ (savL E FS [0]).length) fl oa oc w', Q = (savL E FS fl).length → Rd w' (.slice oa Q oc) Q (inCells (savL E FS fl)) → Below wr.heap.size wr w' → (∀ y, y ∈ fl ↔ y ∈ (entW k FS).map fun p => p.1 / 64 * 64) → fl.length ≤ 6 → post (.returned (.tuple #[.slice oa Q oc, .int .i64 0])) w' := fun h h0 Q _ fl oa oc w' e1 h1 h2 h3 h4 => by
                subst e1
                rw [← hpost.out]
                exact ⟨hbw.trans (h2.mono hbw.size), .inr (.inr ⟨by rw [hne.out, hm]; exact h, fun e => h0 (by rw [← hm, e]; rfl), oa, oc, fl, rfl, h1, by rw [hne.out]; exact h3, h4⟩)⟩
              obtain ⟨z, hz⟩ : ∃ z, decide (8 < k + m) = z := ⟨_, rfl⟩
              have hzI : decide ((8 : Int) < (k : Int) + (m : Int)) = z := by rw [← hz]; congr 1; simp; omega
              have hm3 : m ≤ 3 := by omega
              have hcI : ((k + m : Nat) : Int) = (k : Int) + (m : Int) := by omega
              replace hbw := Lib.hid hbw
              replace hgf := Lib.hid hgf
              replace hfin4 := Lib.hid hfin4
              replace hfin0 := Lib.hid hfin0
              replace hfin1 := Lib.hid hfin1
              obtain ⟨c, hc⟩ : ∃ c, k + m = c := ⟨_, rfl⟩
              rw [hc] at hkm hz hcI hfin4 hfin0 hfin1
              rw [hcI] at hkm
              replace hcI := Lib.hid hcI
              replace hc := Lib.hid hc
              replace hz := Lib.hid hz
              clear hP hpost hb2 hgo herr hload hcap kg hFS hge
              go_wp2_with fail
              refine her.out.mono ?_
              rintro e w' ⟨rfl, rfl⟩
              go_wp2_with fail
              refine hcp.out.mono ?_
              rintro e w' ⟨rfl, rfl⟩
              cases z with
              | true =>
                have hf := Lib.hid (hfin4.out (of_decide_eq_true hz.out))
                go_wp2_with fail
                first | exact hf.out | (go_ret; exact hf.out)
              | false =>
                have hc8 := Nat.le_of_not_lt (of_decide_eq_false hz.out)
                by_cases hm0 : m = 0
                · have hf := Lib.hid (hfin0.out hc8 hm0)
                  subst hm0
                  go_wp2_with fail
                  first | exact hf.out | (go_ret; exact hf.out)
                · have hmI : ((m : Int) == 0) = false := by rw [beq_eq_false_iff_ne]; omega
                  have hst0 := Lib.hid (RowB.nil wr 133 2)
                  replace hc8 := Lib.hid hc8
                  clear hml l0 her hcp
                  go_wp2_with fail
                  obtain ⟨w5, rfl⟩ : ∃ w5, w5 = wr := ⟨_, rfl⟩
                  go_loopw [18, 100] (fun s18 s100 wx => ∃ (j : Nat) (oa : Option Addr) (oc : Nat), j ≤ m ∧ s100 = .int .i64 (j : Int) ∧ s18 = .slice oa (2 * j) oc ∧ RowB w5 133 2 (2 * j) (wcells (entW k (FS.take j))) oa oc wx) (fun _ s100 _ => m - (RowKit.intOf s100).toNat)
                  case atStart => exact ⟨0, none, 0, by omega, rfl, rfl, hst0.out⟩
                  case round =>
                    clear hst0
                    obtain ⟨j, oa, oc, hj, rfl, rfl, hP⟩ := hrel
                    by_cases hlt : (j < m)
                    · have kd : decide ((j : Int) < (m : Int)) = true := decide_eq_true (by omega)
                      have k1 : (j : Int) < (m : Int) := by omega
                      have kw := Lib.hid (show wrap64 ((j : Int) + 1) = ((j + 1 : Nat) : Int) from by unfold wrap64; omega)
                      have hkj : wrap64 ((k : Int) + (j : Int)) = (k : Int) + (j : Int) := by unfold wrap64; omega
                      obtain ⟨bl3, ol3, x, y, rfl, hx, hcf⟩ := hgf.out j hlt
                      obtain ⟨c0, c1⟩ := hcf wr hP.b
                      have htk : FS.take (j + 1) = FS.take j ++ [(x, y)] := by rw [List.take_add_one, hx]; rfl
                      have hFl : (FS.take j).length = j := by rw [List.length_take]; omega
                      have hen := entW_snoc (FS.take j) k (x, y)
                      rw [← htk, hFl] at hen
                      obtain ⟨PS, hPS⟩ : ∃ PS, entW k (FS.take j) = PS := ⟨_, rfl⟩
                      rw [hPS] at hP hen
                      obtain ⟨W1, hW1⟩ : ∃ W1, W1 = wr.alloc (.cells #[.int .u64 (x : Int), .int .u64 (y : Int)] 133) := ⟨_, rfl⟩
                      have hb1 : Below wr.heap.size wr W1 := by rw [hW1]; exact (Below.refl _ _).alloc (Nat.le_refl _) _
                      have hN1 : Has W1 wr.heap.size [.int .u64 (x : Int), .int .u64 (y : Int)] 133 := by rw [hW1]; exact Has.new wr _ _
                      have hP1 := hP.below hb1
                      have hof := hoff.out W1 (hbw.out.trans (hP1.b.mono hbw.out.size)) (k + j) (by omega)
                      have hkjI : ((k + j : Nat) : Int) = (k : Int) + (j : Int) := by omega
                      rw [hkjI] at hof
                      obtain ⟨f1, hf1⟩ : ∃ f1, (64 + 16 * (k + j) : Nat) = f1 := ⟨_, rfl⟩
                      obtain ⟨f2, hf2⟩ : ∃ f2, (72 + 16 * (k + j) : Nat) = f2 := ⟨_, rfl⟩
                      have o8 : IntKind.u64.wrap ((f1 : Int) + 8) = (f2 : Int) := by
                        have e : (f1 : Int) + 8 = (f2 : Int) := by omega
                        rw [e]; exact u64w (by omega)
                      rw [hf1, hf2] at hen
                      rw [hf1] at hof
                      have hb2 := (Below.refl W1.heap.size W1).alloc (Nat.le_refl _) (.cells #[.int .u64 (f1 : Int), .int .u64 (x : Int)] 133)
                      have hP2 := hP1.below hb2
                      have hN2 := Has.new W1 [.int .u64 (f1 : Int), .int .u64 (x : Int)] 133
                      have hX2 := hN1.alloc (.cells #[.int .u64 (f1 : Int), .int .u64 (x : Int)] 133)
                      have hlP : ∀ q, Value.ownBlock (.slice oa (2 * j) oc) = some q → q < wr.heap.size := fun q hq => ownsRow_lt hP.o hq
                      have ho2 := hP2.o
                      have hby2 : (2 * j + 1) * 16 ≤ 140737488355328 := by omega
                      have d0 := hN1.cell (o := 0) rfl
                      replace hW1 := Lib.hid hW1.symm
                      replace hP2 := Lib.hid hP2
                      replace hX2 := Lib.hid hX2
                      replace hlP := Lib.hid hlP
                      replace hen := Lib.hid hen
                      replace hcf := Lib.hid hcf
                      replace hof := Lib.hid hof
                      clear hP hb1 hb2 hP1 hPS htk hf1 hf2 hFl hkjI hN1
                      go_wp2_with fail
                      rw [hW1.out]
                      go_wp2_with fail
                      refine hof.out.mono ?_
                      rintro e w' ⟨rfl, rfl⟩
                      go_wp2_with (at_builtin; refine wpList_app rfl (.tmp 111) (.tmp 116) 88 rfl 133 (.agg #[.int .u64 0, .int .u64 0]) 2 16 Try.underlying88 infoWr2 rfl (by decide) (by decide) oa (2 * j) oc (wcells PS) (by exact ho2) rfl _ 1 1 [.int .u64 (f1 : Int), .int .u64 (x : Int)] rfl rfl (by exact newsIn hN2) (by simp [Value.oneCell']) (by exact hby2) ?_)
                      intro oa2 oc2 w7 own7 only7 fresh7
                      have hP7 : RowB w5 133 2 (2 * j + 1) (wcells (PS ++ [(f1, x)])) oa2 oc2 w7 := by
                        rw [wcells_snoc]
                        exact hP2.out.app own7 only7 (fun q hq => by have := fresh7 q hq; simpa using this)
                      have hX7 := Has.only hX2.out only7 (fun e => by have := hlP.out _ e; omega)
                      have hb8 := (Below.refl w7.heap.size w7).alloc (Nat.le_refl _) (.cells #[.int .u64 (f2 : Int), .int .u64 (y : Int)] 133)
                      have hP8 := hP7.below hb8
                      have hN8 := Has.new w7 [.int .u64 (f2 : Int), .int .u64 (y : Int)] 133
                      have ho8 := hP8.o
                      have hby8 : (2 * j + 1 + 1) * 16 ≤ 140737488355328 := by omega
                      have d1 := hX7.cell (o := 1) rfl
                      replace hP8 := Lib.hid hP8
                      clear own7 only7 fresh7 ho2 hN2 hP7 hX7 hb8 hof d0
                      go_wp2_with (at_builtin; refine wpList_app rfl (.tmp 118) (.tmp 124) 88 rfl 133 (.agg #[.int .u64 0, .int .u64 0]) 2 16 Try.underlying88 infoWr2 rfl (by decide) (by decide) oa2 (2 * j + 1) oc2 (wcells (PS ++ [(f1, x)])) (by exact ho8) rfl _ 1 1 [.int .u64 (f2 : Int), .int .u64 (y : Int)] rfl rfl (by exact newsIn hN8) (by simp [Value.oneCell']) (by exact hby8) ?_)
                      intro oa3 oc3 w9 own9 only9 fresh9
                      have hP9 : RowB w5 133 2 (2 * (j + 1)) (wcells (entW k (FS.take (j + 1)))) oa3 oc3 w9 := by
                        rw [hen.out, show PS ++ [(f1, x), (f2, y)] = PS ++ [(f1, x)] ++ [(f2, y)] from by simp, wcells_snoc]
                        exact hP8.out.app own9 only9 (fun q hq => by have := fresh9 q hq; simpa using this)
                      replace hP9 := Lib.hid hP9
                      clear own9 only9 fresh9 ho8 hN8 d1
                      go_wp2_with fail
                      first | rw [kw.out] | skip
                      go_roundw
                      case rel => exact ⟨j + 1, oa3, oc3, by omega, rfl, rfl, hP9.out⟩
                      case measure => simp [RowKit.intOf]; try omega
                    · have kd : decide ((j : Int) < (m : Int)) = false := decide_eq_false (by omega)
                      have kk1 : ¬ (j : Int) < (m : Int) := by omega
                      have hjm : m = j := by omega
                      subst hjm
                      rw [List.take_of_length_le (Nat.le_of_eq hm)] at hP
                      have hWl : (entW k FS).length = 2 * m := by rw [entW_len, hm]
                      have hWv : ∀ p ∈ entW k FS, p.1 < 18446744073709551616 := fun p hp => by
                        obtain ⟨i, h1, h2, h3⟩ := entW_mem (n := 0) hp
                        omega
                      obtain ⟨WS, hWS⟩ : ∃ WS, entW k FS = WS := ⟨_, rfl⟩
                      have hrd := hP.rd
                      have hb6 := hP.b
                      rw [hWS] at hrd hWl hWv hfin1
                      have hst := ustores_any WS (by omega) hWv oa oc wr (by rw [hWl]; exact hrd)
                      rw [hWl] at hst
                      have hWS0 : WS ≠ [] := fun e => by rw [e] at hWl; simp at hWl; omega
                      obtain ⟨m2, hm2⟩ : ∃ m2, 2 * m = m2 := ⟨_, rfl⟩
                      rw [hm2] at hst ⊢
                      replace hst := Lib.hid hst
                      replace hb6 := Lib.hid hb6
                      clear hP hrd
                      go_wp2_with fail
                      refine hst.out.mono ?_
                      rintro e w7 ⟨od, oe, fl, rfl, hfl, hfll, hr7, hb7, _⟩
                      have hfl6 := Lib.hid (show fl.length ≤ 6 from by omega)
                      have e3 : storesL WS fl = storesI WS fl := by unfold storesL; rw [if_neg hWS0]
                      rw [e3] at hr7 ⊢
                      have hb57 := hb6.out.trans (hb7.mono hb6.out.size)
                      have hcn := hcnt.out w7 (hbw.out.trans (hb57.mono hbw.out.size)) c (by have := hc8.out; omega)
                      rw [hcI.out] at hcn
                      obtain ⟨X, hX⟩ : ∃ X, storesI WS fl = X := ⟨_, rfl⟩
                      have hX0 : 0 < X.length := by rw [← hX]; unfold storesI; simp; omega
                      have hXl : X.length ≤ 20 := by rw [← hX]; unfold storesI; simp; omega
                      rw [hX] at hr7 ⊢
                      obtain ⟨p, hp⟩ : ∃ p, X.length = p := ⟨_, rfl⟩
                      rw [hp] at hr7 hX0 hXl ⊢
                      replace hr7 := Lib.hid hr7
                      replace hX := Lib.hid hX
                      replace hp := Lib.hid hp
                      replace hcn := Lib.hid hcn
                      replace hb57 := Lib.hid hb57
                      replace hfl := Lib.hid hfl
                      clear hst e3 hb7 hfll hWl hm2
                      go_wp2_with fail
                      refine hcn.out.mono ?_
                      rintro e w8 ⟨og, oh, fl2, rfl, h21, h22, hr8, hb8, _⟩
                      obtain rfl := one_zeroN c h21 h22
                      have e5 : storesL [((0 : Nat), c)] [0] = storesI [(0, c)] [0] := by unfold storesL; rw [if_neg (by simp)]
                      have e5l : (storesL [((0 : Nat), c)] [0]).length = 3 := by rw [e5]; rfl
                      rw [e5l] at hr8 ⊢
                      rw [e5] at hr8
                      have hr6 := hr7.out.kept hb8
                      have hth := uthen_any X (storesI [(0, c)] [0]) (by rw [hp.out]; exact hX0) (by show 0 < 3; decide) (by rw [hp.out, show (storesI [((0 : Nat), c)] [0]).length = 3 from rfl]; omega) od og oe oh w8 (by rw [hp.out]; exact hr6) hr8
                      rw [hp.out, show (storesI [((0 : Nat), c)] [0]).length = 3 from rfl] at hth
                      have hb58 := Lib.hid (hb57.out.trans (hb8.mono hb57.out.size))
                      replace hth := Lib.hid hth
                      clear hr8 hb8 hr6 h21 h22 e5 e5l hr7 hcn
                      go_wp2_with fail
                      refine hth.out.mono ?_
                      rintro e w9 ⟨op, oq, rfl, hB9⟩
                      obtain ⟨Q, hQ⟩ : ∃ Q, (X ++ storesI [(0, c)] [0]).length = Q := ⟨_, rfl⟩
                      have eL : savL E FS fl = X ++ storesI [(0, c)] [0] := by unfold savL; rw [hne.out, hWS, hX.out, hm, hc.out]
                      rw [hQ] at hB9 ⊢
                      have hf := Lib.hid (hfin1.out hc8.out hm0 Q (Nat.le_refl _) fl op oq w9 (by rw [eL]; exact hQ.symm) (by rw [eL]; exact hB9.rd) (hb58.out.trans (hB9.b.mono hb58.out.size)) hfl.out hfl6.out)
                      clear hB9 hth hQ
                      go_wp2_with fail
                      first | exact hf.out | (go_ret; exact hf.out)
end Go.Proofs.Ytjmdibgncaljaaa
