/- Walks: Make. -/
import Derived.Test.YtgnoikfmhncbmaaGreatDoorU5
set_option linter.unusedVariables false
set_option linter.unusedSimpArgs false
namespace Go.Proofs.YtgnoikfmhncbmaaGreatDoor
open Go.RowKit
set_option maxHeartbeats 8000000 in
set_option maxRecDepth 100000 in
theorem make_w {w : World} (tg : ByteArray) (ca ia : Option Addr) (cc m ic : Nat) (qc : Value) (pt : Option Addr) (od : ByteArray) (ds : Bool) (lm : Int) (ce : Nat) (post : Ending → World → Prop) (B : ByteArray → Sp) (nm : Nat → ByteArray) (ty pos : Nat → Nat) (hm4 : m ≤ 4) (kq : Int) (od2 : ByteArray) (ds2 : Bool) (lm2 : Int) (hkd : (kq = 7 ∧ od2 = od ∧ ds2 = ds ∧ lm2 = lm) ∨ (kq = 6 ∧ od2 = ⟨#[]⟩ ∧ ds2 = false ∧ lm2 = -1))
    (hck : ∀ wx, Below w.heap.size w wx → Calls Tryz.prog 45 #[.agg #[.string tg, .int .i64 1, .slice ca 4 cc, .slice ia m ic, .int .u64 0, .int .u64 0], .agg #[.int .u8 kq, .string tg, .int .u32 0, qc, .slice none 0 0, .pointer pt, .string od, .bool ds, .int .i64 lm, .string ⟨#[]⟩, .int .i64 0, .slice none 0 0, .slice none 0 0, .int .u64 0, .int .u64 0, .bool false]] wx (RPost wx (.int .i64 (ce : Int))))
    (hb0 : ∀ wx, Below w.heap.size w wx → Calls Tryz.prog 10 #[.pointer pt, .string ⟨#[105, 100]⟩] wx (RPost wx (bndV (B idS))))
    (hbd : ∀ j, j < m → ∀ wx, Below w.heap.size w wx → Calls Tryz.prog 10 #[.pointer pt, .string (nm j)] wx (RPost wx (bndV (B (nm j)))))
    (hfn : ∀ j, j < m → ∀ wx, Below w.heap.size w wx → Calls Tryz.prog 26 #[.agg #[.string tg, .int .i64 1, .slice ca 4 cc, .slice ia m ic, .int .u64 0, .int .u64 0], .string (nm j)] wx (RPost wx (.int .i64 (pos j : Int))))
    (hsg : ∀ j, j < m → ∀ wx, Below w.heap.size w wx → Calls Tryz.prog 47 #[.int .u8 (ty j : Int), (B (nm j)).lo.val, (B (nm j)).hi.val] wx (RPost wx (.bool (fitI B nm ty 0 j))))
    (hrg : ∀ j, j < m → ∀ wx, Below w.heap.size w wx → Calls Tryz.prog 48 #[.int .u8 (ty j : Int), (B (nm j)).lo.val, (B (nm j)).hi.val] wx (RPost wx (.bool (fitI B nm ty 1 j))))
    (hix : ∀ j, j < m → ∃ bi oi, ia = some ⟨bi, oi, none⟩ ∧ ∀ wx, Below w.heap.size w wx → wx.cell? ⟨bi, oi + j * 2, none⟩ = some (.string (nm j)) ∧ wx.cell? ⟨bi, oi + j * 2 + 1, none⟩ = some (.bool false))
    (hct : ∀ j, j < m → ∃ bc oc, ca = some ⟨bc, oc, none⟩ ∧ pos j < 4 ∧ ∀ wx, Below w.heap.size w wx → wx.cell? ⟨bc, oc + pos j * 9 + 1, none⟩ = some (.int .u8 (ty j : Int)))
    (hp0 : ce ≠ 0 → ∀ w', Below w.heap.size w w' → post (.returned (.tuple #[.agg #[.int .u8 0, .string ⟨#[]⟩, .int .u8 0, .bool false, .int .i64 0, .string ⟨#[]⟩, .bool false, .int .u8 0, .bool false, .int .i64 0, .string ⟨#[]⟩, .bool false, .int .u32 0, .int .u32 0, .pointer none, .string ⟨#[]⟩, .bool false, .int .i64 0], .int .i64 (ce : Int)])) w')
    (hp1 : ce = 0 → ∀ w', Below w.heap.size w w' → post (.returned (.tuple #[.agg (planCells (planD B nm ty m) (idsP (B idS).lo (B idS).hi) (.pointer pt) od2 ds2 lm2).toArray, .int .i64 0])) w') :
    Calls Tryz.prog 25 #[.agg #[.string tg, .int .i64 1, .slice ca 4 cc, .slice ia m ic, .int .u64 0, .int .u64 0], .agg #[.int .u8 kq, .string tg, .int .u32 0, qc, .slice none 0 0, .pointer pt, .string od, .bool ds, .int .i64 lm, .string ⟨#[]⟩, .int .i64 0, .slice none 0 0, .slice none 0 0, .int .u64 0, .int .u64 0, .bool false]] w post := by

  replace hkd := Lib.hid hkd
  replace hck := Lib.hid hck
  replace hb0 := Lib.hid hb0
  replace hbd := Lib.hid hbd
  replace hfn := Lib.hid hfn
  replace hsg := Lib.hid hsg
  replace hrg := Lib.hid hrg
  replace hix := Lib.hid hix
  replace hct := Lib.hid hct
  replace hp0 := Lib.hid hp0
  replace hp1 := Lib.hid hp1
  obtain ⟨W1, hW1⟩ : ∃ W1, W1 = ((w.alloc (.cells #[.string tg, .int .i64 1, .slice ca 4 cc, .slice ia m ic, .int .u64 0, .int .u64 0] 59)).alloc (.cells #[.int .u8 kq, .string tg, .int .u32 0, qc, .slice none 0 0, .pointer pt, .string od, .bool ds, .int .i64 lm, .string ⟨#[]⟩, .int .i64 0, .slice none 0 0, .slice none 0 0, .int .u64 0, .int .u64 0, .bool false] 80)).alloc (.cells #[.int .u8 0, .string ⟨#[]⟩, .int .u8 0, .bool false, .int .i64 0, .string ⟨#[]⟩, .bool false, .int .u8 0, .bool false, .int .i64 0, .string ⟨#[]⟩, .bool false, .int .u32 0, .int .u32 0, .pointer none, .string ⟨#[]⟩, .bool false, .int .i64 0] 43) := ⟨_, rfl⟩
  have HT : Has W1 w.heap.size [.string tg, .int .i64 1, .slice ca 4 cc, .slice ia m ic, .int .u64 0, .int .u64 0] 59 := by rw [hW1]; exact ((Has.new w _ _).alloc _).alloc _
  have HS : Has W1 (w.heap.size + 1) [.int .u8 kq, .string tg, .int .u32 0, qc, .slice none 0 0, .pointer pt, .string od, .bool ds, .int .i64 lm, .string ⟨#[]⟩, .int .i64 0, .slice none 0 0, .slice none 0 0, .int .u64 0, .int .u64 0, .bool false] 80 := by rw [hW1]; have h := Has.new (w.alloc (.cells #[.string tg, .int .i64 1, .slice ca 4 cc, .slice ia m ic, .int .u64 0, .int .u64 0] 59)) [.int .u8 kq, .string tg, .int .u32 0, qc, .slice none 0 0, .pointer pt, .string od, .bool ds, .int .i64 lm, .string ⟨#[]⟩, .int .i64 0, .slice none 0 0, .slice none 0 0, .int .u64 0, .int .u64 0, .bool false] 80; simp only [World.size_alloc] at h; exact h.alloc _
  have HR : Has W1 (w.heap.size + 1 + 1) [.int .u8 0, .string ⟨#[]⟩, .int .u8 0, .bool false, .int .i64 0, .string ⟨#[]⟩, .bool false, .int .u8 0, .bool false, .int .i64 0, .string ⟨#[]⟩, .bool false, .int .u32 0, .int .u32 0, .pointer none, .string ⟨#[]⟩, .bool false, .int .i64 0] 43 := by rw [hW1]; have h := Has.new ((w.alloc (.cells #[.string tg, .int .i64 1, .slice ca 4 cc, .slice ia m ic, .int .u64 0, .int .u64 0] 59)).alloc (.cells #[.int .u8 kq, .string tg, .int .u32 0, qc, .slice none 0 0, .pointer pt, .string od, .bool ds, .int .i64 lm, .string ⟨#[]⟩, .int .i64 0, .slice none 0 0, .slice none 0 0, .int .u64 0, .int .u64 0, .bool false] 80)) [.int .u8 0, .string ⟨#[]⟩, .int .u8 0, .bool false, .int .i64 0, .string ⟨#[]⟩, .bool false, .int .u8 0, .bool false, .int .i64 0, .string ⟨#[]⟩, .bool false, .int .u32 0, .int .u32 0, .pointer none, .string ⟨#[]⟩, .bool false, .int .i64 0] 43; simp only [World.size_alloc] at h; exact h
  have hb1 : Below w.heap.size w W1 := by rw [hW1]; exact (((Below.refl _ _).alloc (Nat.le_refl _) _).alloc (by simp) _).alloc (by simp; omega) _
  replace hW1 := Lib.hid hW1.symm
  have hck1 := Lib.hid (hck.out W1 hb1)
  have cHT0 := (HT).cell (o := 0) rfl
  have cHT1 := (HT).cell (o := 1) rfl
  have cHT2 := (HT).cell (o := 2) rfl
  have cHT3 := (HT).cell (o := 3) rfl
  have cHT4 := (HT).cell (o := 4) rfl
  have cHT5 := (HT).cell (o := 5) rfl
  have cHS0 := (HS).cell (o := 0) rfl
  have cHS1 := (HS).cell (o := 1) rfl
  have cHS2 := (HS).cell (o := 2) rfl
  have cHS3 := (HS).cell (o := 3) rfl
  have cHS4 := (HS).cell (o := 4) rfl
  have cHS5 := (HS).cell (o := 5) rfl
  have cHS6 := (HS).cell (o := 6) rfl
  have cHS7 := (HS).cell (o := 7) rfl
  have cHS8 := (HS).cell (o := 8) rfl
  have cHS9 := (HS).cell (o := 9) rfl
  have cHS10 := (HS).cell (o := 10) rfl
  have cHS11 := (HS).cell (o := 11) rfl
  have cHS12 := (HS).cell (o := 12) rfl
  have cHS13 := (HS).cell (o := 13) rfl
  have cHS14 := (HS).cell (o := 14) rfl
  have cHS15 := (HS).cell (o := 15) rfl
  replace HT := Lib.hid HT
  replace HS := Lib.hid HS
  replace HR := Lib.hid HR
  replace hb1 := Lib.hid hb1
  go_enter Tryz.func25, Tryz.ntmps25
  go_upto_region 1 with fail
  rw [hW1.out]
  go_wp2_with fail
  refine hck1.out.mono ?_
  rintro e w2 ⟨rfl, hbc⟩
  clear cHT0 cHT1 cHT2 cHT3 cHT4 cHT5 cHS0 cHS1 cHS2 cHS3 cHS4 cHS5 cHS6 cHS7 cHS8 cHS9 cHS10 cHS11 cHS12 cHS13 cHS14 cHS15
  replace HT := HT.out.only (Only.of_below hbc) (Nat.not_le.2 HT.out.lt)
  replace HS := HS.out.only (Only.of_below hbc) (Nat.not_le.2 HS.out.lt)
  replace HR := HR.out.only (Only.of_below hbc) (Nat.not_le.2 HR.out.lt)
  have hb2 := hb1.out.trans (hbc.mono hb1.out.size)
  clear hck1 hW1 hb1 hbc hck
  by_cases h0 : ce = 0
  rotate_left
  · as_aux_lemma =>
      have e0 : ((ce : Int) != 0) = true := by simp; exact h0
      replace HT := Lib.hid HT
      replace HS := Lib.hid HS
      have hlt := hb2.size
      have HR := HR
      obtain ⟨wN, hst, HR9, hO9⟩ := plan_store (new := [.int .u8 0, .string ⟨#[]⟩, .int .u8 0, .bool false, .int .i64 0, .string ⟨#[]⟩, .bool false, .int .u8 0, .bool false, .int .i64 0, .string ⟨#[]⟩, .bool false, .int .u32 0, .int .u32 0, .pointer none, .string ⟨#[]⟩, .bool false, .int .i64 0]) HR rfl rfl (by simp [Value.oneCell'])
      have hfin : post (.returned (.tuple #[.agg #[.int .u8 0, .string ⟨#[]⟩, .int .u8 0, .bool false, .int .i64 0, .string ⟨#[]⟩, .bool false, .int .u8 0, .bool false, .int .i64 0, .string ⟨#[]⟩, .bool false, .int .u32 0, .int .u32 0, .pointer none, .string ⟨#[]⟩, .bool false, .int .i64 0], .int .i64 (ce : Int)])) wN := hp0.out h0 _ (hb2.trans (hO9.below (B := w.heap.size) hb2.size (fun k _ e => by omega)))
      replace hfin := Lib.hid hfin
      replace hst := Lib.hid hst
      replace HR9 := Lib.hid HR9
      clear hO9
      replace HR := Lib.hid HR
      go_wp2_with (refine wpList_storeA rfl (.tmp 4) (.tmp 23) 43 rfl rfl hst.out ?_)
      exact bodyPost_ret (results_make rfl rfl HR9.out rfl) rfl hfin.out
  subst h0
  have e0 : (((0 : Nat) : Int) != 0) = false := rfl
  replace hp1 := Lib.hid (hp1.out rfl)
  clear hp0
  have cHS5 := (HS).cell (o := 5) rfl
  obtain ⟨WA, hWA⟩ : ∃ WA, WA = w2.alloc (.cells #[.int .u8 1, .string ⟨#[]⟩, .int .u8 0, .bool false, .int .i64 0, .string ⟨#[]⟩, .bool false, .int .u8 0, .bool false, .int .i64 0, .string ⟨#[]⟩, .bool false, .int .u32 0, .int .u32 0, .pointer pt, .string ⟨#[]⟩, .bool false, .int .i64 (-1)] 43) := ⟨_, rfl⟩
  obtain ⟨bP, hbP⟩ : ∃ bP, bP = w2.heap.size := ⟨_, rfl⟩
  have hM : MkSt w bP [.string tg, .int .i64 1, .slice ca 4 cc, .slice ia m ic, .int .u64 0, .int .u64 0] [.int .u8 kq, .string tg, .int .u32 0, qc, .slice none 0 0, .pointer pt, .string od, .bool ds, .int .i64 lm, .string ⟨#[]⟩, .int .i64 0, .slice none 0 0, .slice none 0 0, .int .u64 0, .int .u64 0, .bool false] [.int .u8 0, .string ⟨#[]⟩, .int .u8 0, .bool false, .int .i64 0, .string ⟨#[]⟩, .bool false, .int .u8 0, .bool false, .int .i64 0, .string ⟨#[]⟩, .bool false, .int .u32 0, .int .u32 0, .pointer none, .string ⟨#[]⟩, .bool false, .int .i64 0] [.int .u8 1, .string ⟨#[]⟩, .int .u8 0, .bool false, .int .i64 0, .string ⟨#[]⟩, .bool false, .int .u8 0, .bool false, .int .i64 0, .string ⟨#[]⟩, .bool false, .int .u32 0, .int .u32 0, .pointer pt, .string ⟨#[]⟩, .bool false, .int .i64 (-1)] WA := by
    rw [hbP, hWA]; exact ⟨HT.alloc _, HS.alloc _, HR.alloc _, Has.new _ _ _, HR.lt, hb2.alloc hb2.size _⟩
  replace HT := Lib.hid HT
  replace HS := Lib.hid HS
  replace HR := Lib.hid HR
  replace hM := Lib.hid hM
  replace hb2 := Lib.hid hb2
  replace hWA := Lib.hid hWA.symm
  replace hbP := Lib.hid hbP.symm
  go_upto_region 4 with fail
  go_cut [7] (fun q wx => q = .pointer (some ⟨bP, 0, none⟩) ∧ WA = wx)
  case first =>
    as_aux_lemma =>
      go_wp2_with fail
      rw [hWA.out, hbP.out]
      go_meet
      exact ⟨rfl, rfl⟩
  case rest =>
    clear cHS5
    rename World => w4
    obtain ⟨rfl, rfl⟩ := hcut
    clear HT HS HR hb2 hWA hbP
    as_aux_lemma =>
      have chMS0 := (hM.out.S).cell (o := 0) rfl
      have chMS6 := (hM.out.S).cell (o := 6) rfl
      have chMS7 := (hM.out.S).cell (o := 7) rfl
      have chMS8 := (hM.out.S).cell (o := 8) rfl
      have chMP15 := (hM.out.P).cell (o := 15) rfl
      have chMP16 := (hM.out.P).cell (o := 16) rfl
      have chMP17 := (hM.out.P).cell (o := 17) rfl
      have fhMP15 := (hM.out.P).free 15
      have fhMP16 := (hM.out.P).free 16
      have fhMP17 := (hM.out.P).free 17
      go_upto_if 30 with fail
      go_cut [5] (fun q wx => q = .int .i64 0 ∧ MkSt w bP [.string tg, .int .i64 1, .slice ca 4 cc, .slice ia m ic, .int .u64 0, .int .u64 0] [.int .u8 kq, .string tg, .int .u32 0, qc, .slice none 0 0, .pointer pt, .string od, .bool ds, .int .i64 lm, .string ⟨#[]⟩, .int .i64 0, .slice none 0 0, .slice none 0 0, .int .u64 0, .int .u64 0, .bool false] [.int .u8 0, .string ⟨#[]⟩, .int .u8 0, .bool false, .int .i64 0, .string ⟨#[]⟩, .bool false, .int .u8 0, .bool false, .int .i64 0, .string ⟨#[]⟩, .bool false, .int .u32 0, .int .u32 0, .pointer none, .string ⟨#[]⟩, .bool false, .int .i64 0] [.int .u8 1, .string ⟨#[]⟩, .int .u8 0, .bool false, .int .i64 0, .string ⟨#[]⟩, .bool false, .int .u8 0, .bool false, .int .i64 0, .string ⟨#[]⟩, .bool false, .int .u32 0, .int .u32 0, .pointer pt, .string od2, .bool ds2, .int .i64 lm2] wx)
      case first =>
        as_aux_lemma =>
          rcases hkd.out with ⟨rfl, rfl, rfl, rfl⟩ | ⟨rfl, rfl, rfl, rfl⟩
          · go_upto_region 6 with fail
            go_region
            have hM2 := (((hM.out.setP 15 (.string od2)).setP 16 (.bool ds2)).setP 17 (.int .i64 lm2)).drew
            replace hM2 := Lib.hid hM2
            go_wp2_with fail
            go_meet
            exact ⟨rfl, hM2.out⟩
          · go_wp2_with fail
            go_meet
            exact ⟨rfl, hM.out⟩
      case rest =>
        clear chMS0 chMS6 chMS7 chMS8 chMP15 chMP16 chMP17 fhMP15 fhMP16 fhMP17
        rename World => w5
        obtain ⟨rfl, hM5⟩ := hcut
        clear hM
        have hM := Lib.hid hM5
        clear hM5
        as_aux_lemma =>
          obtain ⟨⟨⟨ta, na, ia0, xa, ba⟩, ⟨tb, nb, ib, xb, bb⟩, ex0⟩, hB0⟩ : ∃ s, B idS = s := ⟨_, rfl⟩
          have hbx := hb0.out w5 hM.out.hb
          rw [hB0] at hbx
          unfold bndV at hbx
          dsimp only [RV.val] at hbx
          replace hbx := Lib.hid hbx
          replace hB0 := Lib.hid hB0
          have chMS0 := (hM.out.S).cell (o := 0) rfl
          have chMS5 := (hM.out.S).cell (o := 5) rfl
          go_upto_region 7 with fail
          go_cut [8, 9] (fun q1 q2 wx => ∃ bL bH, q1 = .pointer (some ⟨bL, 0, none⟩) ∧ q2 = .pointer (some ⟨bH, 0, none⟩) ∧ MkSt w bP [.string tg, .int .i64 1, .slice ca 4 cc, .slice ia m ic, .int .u64 0, .int .u64 0] [.int .u8 kq, .string tg, .int .u32 0, qc, .slice none 0 0, .pointer pt, .string od, .bool ds, .int .i64 lm, .string ⟨#[]⟩, .int .i64 0, .slice none 0 0, .slice none 0 0, .int .u64 0, .int .u64 0, .bool false] [.int .u8 0, .string ⟨#[]⟩, .int .u8 0, .bool false, .int .i64 0, .string ⟨#[]⟩, .bool false, .int .u8 0, .bool false, .int .i64 0, .string ⟨#[]⟩, .bool false, .int .u32 0, .int .u32 0, .pointer none, .string ⟨#[]⟩, .bool false, .int .i64 0] [.int .u8 1, .string ⟨#[]⟩, .int .u8 0, .bool false, .int .i64 0, .string ⟨#[]⟩, .bool false, .int .u8 0, .bool false, .int .i64 0, .string ⟨#[]⟩, .bool false, .int .u32 0, .int .u32 0, .pointer pt, .string od2, .bool ds2, .int .i64 lm2] wx ∧ Has wx bL [.int .u8 (ta : Int), .bool na, .int .i64 ia0, .string xa, .bool ba] 28 ∧ Has wx bH [.int .u8 (tb : Int), .bool nb, .int .i64 ib, .string xb, .bool bb] 28 ∧ bP < bL ∧ bL < bH)
          case first =>
            as_aux_lemma =>
              go_wp2_with fail
              refine hbx.out.mono ?_
              rintro e w6 ⟨rfl, hb6⟩
              have hM6 := Lib.hid (hM.out.below hb6)
              clear hb6
              go_wp2_with fail
              go_meet
              exact ⟨w6.heap.size, w6.heap.size + 1, rfl, rfl, (hM6.out.alloc _).alloc _, (Has.new w6 _ _).alloc _, by have h := Has.new (w6.alloc (.cells #[.int .u8 (ta : Int), .bool na, .int .i64 ia0, .string xa, .bool ba] 28)) [.int .u8 (tb : Int), .bool nb, .int .i64 ib, .string xb, .bool bb] 28; simp only [World.size_alloc] at h; exact h, hM6.out.P.lt, Nat.lt_succ_self _⟩
          case rest =>
            clear chMS0 chMS5
            rename World => w6
            obtain ⟨bL, bH, rfl, rfl, hM6, HL, HH, l1, l2⟩ := hcut
            clear hM hbx
            have hM := Lib.hid hM6
            clear hM6
            replace HL := Lib.hid HL
            replace HH := Lib.hid HH
            replace l1 := Lib.hid l1
            replace l2 := Lib.hid l2
            as_aux_lemma =>
              have hid := ids_any ⟨ta, na, ia0, xa, ba⟩ ⟨tb, nb, ib, xb, bb⟩ w6
              dsimp only [RV.val] at hid
              obtain ⟨fa, hfa⟩ : ∃ x, (idsP ⟨ta, na, ia0, xa, ba⟩ ⟨tb, nb, ib, xb, bb⟩).1 = x := ⟨_, rfl⟩
              obtain ⟨fb, hfb⟩ : ∃ x, (idsP ⟨ta, na, ia0, xa, ba⟩ ⟨tb, nb, ib, xb, bb⟩).2 = x := ⟨_, rfl⟩
              rw [hfa, hfb] at hid
              replace hid := Lib.hid hid
              replace hfa := Lib.hid hfa
              replace hfb := Lib.hid hfb
              have cHL0 := (HL.out).cell (o := 0) rfl
              have cHL1 := (HL.out).cell (o := 1) rfl
              have cHL2 := (HL.out).cell (o := 2) rfl
              have cHL3 := (HL.out).cell (o := 3) rfl
              have cHL4 := (HL.out).cell (o := 4) rfl
              have cHH0 := (HH.out).cell (o := 0) rfl
              have cHH1 := (HH.out).cell (o := 1) rfl
              have cHH2 := (HH.out).cell (o := 2) rfl
              have cHH3 := (HH.out).cell (o := 3) rfl
              have cHH4 := (HH.out).cell (o := 4) rfl
              go_upto_region 8 with fail
              go_cut [5] (fun q wx => q = .int .i64 0 ∧ MkSt w bP [.string tg, .int .i64 1, .slice ca 4 cc, .slice ia m ic, .int .u64 0, .int .u64 0] [.int .u8 kq, .string tg, .int .u32 0, qc, .slice none 0 0, .pointer pt, .string od, .bool ds, .int .i64 lm, .string ⟨#[]⟩, .int .i64 0, .slice none 0 0, .slice none 0 0, .int .u64 0, .int .u64 0, .bool false] [.int .u8 0, .string ⟨#[]⟩, .int .u8 0, .bool false, .int .i64 0, .string ⟨#[]⟩, .bool false, .int .u8 0, .bool false, .int .i64 0, .string ⟨#[]⟩, .bool false, .int .u32 0, .int .u32 0, .pointer none, .string ⟨#[]⟩, .bool false, .int .i64 0] [.int .u8 1, .string ⟨#[]⟩, .int .u8 0, .bool false, .int .i64 0, .string ⟨#[]⟩, .bool false, .int .u8 0, .bool false, .int .i64 0, .string ⟨#[]⟩, .bool false, .int .u32 fa, .int .u32 fb, .pointer pt, .string od2, .bool ds2, .int .i64 lm2] wx ∧ Has wx bL [.int .u8 (ta : Int), .bool na, .int .i64 ia0, .string xa, .bool ba] 28 ∧ Has wx bH [.int .u8 (tb : Int), .bool nb, .int .i64 ib, .string xb, .bool bb] 28)
              case first =>
                as_aux_lemma =>
                  go_wp2_with fail
                  refine hid.out.mono ?_
                  rintro e w7 ⟨rfl, hb7⟩
                  clear cHL0 cHL1 cHL2 cHL3 cHL4 cHH0 cHH1 cHH2 cHH3 cHH4
                  have hM7 := Lib.hid (hM.out.below hb7)
                  have HL7 := Lib.hid (HL.out.only (Only.of_below hb7) (Nat.not_le.2 HL.out.lt))
                  have HH7 := Lib.hid (HH.out.only (Only.of_below hb7) (Nat.not_le.2 HH.out.lt))
                  clear hb7
                  have chM7P12 := (hM7.out.P).cell (o := 12) rfl
                  have chM7P13 := (hM7.out.P).cell (o := 13) rfl
                  have fhM7P12 := (hM7.out.P).free 12
                  have fhM7P13 := (hM7.out.P).free 13
                  have hz := Lib.hid (show bL ≠ bP ∧ bH ≠ bP from by have := l1.out; have := l2.out; omega)
                  go_wp2_with fail
                  go_meet
                  exact ⟨rfl, (hM7.out.setP 12 _).setP 13 _, (HL7.out.set_ne hz.out.1 _).set_ne hz.out.1 _, (HH7.out.set_ne hz.out.2 _).set_ne hz.out.2 _⟩
              case rest =>
                clear cHL0 cHL1 cHL2 cHL3 cHL4 cHH0 cHH1 cHH2 cHH3 cHH4
                rename World => w8
                obtain ⟨rfl, hM8, HL8, HH8⟩ := hcut
                clear hM HL HH hid l1 l2
                have hM := Lib.hid hM8
                have HL := Lib.hid HL8
                have HH := Lib.hid HH8
                clear hM8 HL8 HH8
                as_aux_lemma =>
                  have cHL1 := (HL.out).cell (o := 1) rfl
                  have cHH1 := (HH.out).cell (o := 1) rfl
                  go_upto_region 9 with fail
                  by_cases hnl : na = false ∨ nb = false
                  ·
                    go_cut [62] (fun q wx => q = .bool true ∧ w8 = wx)
                    case first =>
                      as_aux_lemma =>
                        rcases hnl with rfl | rfl
                        · go_wp2_with fail
                          go_meet
                          exact ⟨rfl, rfl⟩
                        · cases na
                          · go_wp2_with fail
                            go_meet
                            exact ⟨rfl, rfl⟩
                          · go_wp2_with fail
                            go_meet
                            exact ⟨rfl, rfl⟩
                    case rest =>
                      clear cHL1 cHH1
                      rename World => w9
                      obtain ⟨rfl, rfl⟩ := hcut
                      as_aux_lemma =>
                        obtain ⟨w10, hw10⟩ : ∃ w10, w10 = w8.setCell ⟨bP, 0, none⟩ (.int .u8 2) := ⟨_, rfl⟩
                        have hM10 : MkSt w bP [.string tg, .int .i64 1, .slice ca 4 cc, .slice ia m ic, .int .u64 0, .int .u64 0] [.int .u8 kq, .string tg, .int .u32 0, qc, .slice none 0 0, .pointer pt, .string od, .bool ds, .int .i64 lm, .string ⟨#[]⟩, .int .i64 0, .slice none 0 0, .slice none 0 0, .int .u64 0, .int .u64 0, .bool false] [.int .u8 0, .string ⟨#[]⟩, .int .u8 0, .bool false, .int .i64 0, .string ⟨#[]⟩, .bool false, .int .u8 0, .bool false, .int .i64 0, .string ⟨#[]⟩, .bool false, .int .u32 0, .int .u32 0, .pointer none, .string ⟨#[]⟩, .bool false, .int .i64 0] [.int .u8 2, .string ⟨#[]⟩, .int .u8 0, .bool false, .int .i64 0, .string ⟨#[]⟩, .bool false, .int .u8 0, .bool false, .int .i64 0, .string ⟨#[]⟩, .bool false, .int .u32 fa, .int .u32 fb, .pointer pt, .string od2, .bool ds2, .int .i64 lm2] w10 := by rw [hw10]; exact hM.out.setP 0 _
                        have chMP0 := (hM.out.P).cell (o := 0) rfl
                        have fhMP0 := (hM.out.P).free 0
                        replace hw10 := Lib.hid hw10.symm
                        have hpd : planCells (planD B nm ty m) (idsP (B idS).lo (B idS).hi) (.pointer pt) od2 ds2 lm2 = [.int .u8 2, .string ⟨#[]⟩, .int .u8 0, .bool false, .int .i64 0, .string ⟨#[]⟩, .bool false, .int .u8 0, .bool false, .int .i64 0, .string ⟨#[]⟩, .bool false, .int .u32 fa, .int .u32 fb, .pointer pt, .string od2, .bool ds2, .int .i64 lm2] := by rw [planD_id (by rw [hB0.out]; exact hnl), hB0.out, ← hfa.out, ← hfb.out]; rfl
                        replace hp1 := hp1.out
                        rw [hpd] at hp1
                        replace hp1 := Lib.hid hp1
                        clear hpd
                        replace hnl := Lib.hid hnl
                        go_upto_region 11 with fail
                        rw [hw10.out]
                        clear chMP0 fhMP0
                        have hlt := hM10.hb.size
                        have HP := hM10.P
                        have hb10 := hM10.hb
                        have HR0 := hM10.R
                        clear hM hM10
                        replace HP := Lib.hid HP
                        have HR := HR0
                        obtain ⟨wN, hst, HR9, hO9⟩ := plan_store (new := [.int .u8 2, .string ⟨#[]⟩, .int .u8 0, .bool false, .int .i64 0, .string ⟨#[]⟩, .bool false, .int .u8 0, .bool false, .int .i64 0, .string ⟨#[]⟩, .bool false, .int .u32 fa, .int .u32 fb, .pointer pt, .string od2, .bool ds2, .int .i64 lm2]) HR rfl rfl (by simp [Value.oneCell'])
                        have hld := plan_load (HP.out) rfl
                        replace hld := Lib.hid hld
                        have hfin : post (.returned (.tuple #[.agg #[.int .u8 2, .string ⟨#[]⟩, .int .u8 0, .bool false, .int .i64 0, .string ⟨#[]⟩, .bool false, .int .u8 0, .bool false, .int .i64 0, .string ⟨#[]⟩, .bool false, .int .u32 fa, .int .u32 fb, .pointer pt, .string od2, .bool ds2, .int .i64 lm2], .int .i64 0])) wN := hp1.out _ (hb10.trans (hO9.below (B := w.heap.size) hb10.size (fun k _ e => by omega)))
                        replace hfin := Lib.hid hfin
                        replace hst := Lib.hid hst
                        replace HR9 := Lib.hid HR9
                        clear hO9
                        replace HR := Lib.hid HR
                        go_wp2_with (first | (refine wpList_loadA rfl (.tmp 7) 43 rfl _ hld.out ?_) | (refine wpList_storeA rfl (.tmp 4) (.tmp 64) 43 rfl rfl hst.out ?_))
                        exact bodyPost_ret (results_make rfl rfl HR9.out rfl) rfl hfin.out
                  ·
                    have hn2 : na = true ∧ nb = true := by
                      cases na
                      · exact absurd (.inl rfl) hnl
                      · cases nb
                        · exact absurd (.inr rfl) hnl
                        · exact ⟨rfl, rfl⟩
                    obtain ⟨rfl, rfl⟩ := hn2
                    have hidn : ¬ ((B idS).lo.nl = false ∨ (B idS).hi.nl = false) := by rw [hB0.out]; exact hnl
                    replace hidn := Lib.hid hidn
                    have hids : idsP (B idS).lo (B idS).hi = (fa, fb) := by rw [hB0.out, ← hfa.out, ← hfb.out]
                    replace hids := Lib.hid hids
                    have hp2 := hp1.out
                    rw [hids.out] at hp2
                    replace hp2 := Lib.hid hp2
                    go_cut [62] (fun q wx => q = .bool false ∧ w8 = wx)
                    case first =>
                      as_aux_lemma =>
                        go_wp2_with fail
                        go_meet
                        exact ⟨rfl, rfl⟩
                    case rest =>
                      clear cHL1 cHH1
                      rename World => w9
                      obtain ⟨rfl, rfl⟩ := hcut
                      clear hnl hids hfa hfb hB0 HL HH
                      as_aux_lemma =>
                        obtain ⟨bF, hbF⟩ : ∃ bF, bF = w8.heap.size := ⟨_, rfl⟩
                        obtain ⟨wF, hwF⟩ : ∃ wF, wF = w8.alloc (.cells #[.func (.func 47) #[] #[], .func (.func 48) #[] #[]] 125) := ⟨_, rfl⟩
                        have hMF : MkSt w bP [.string tg, .int .i64 1, .slice ca 4 cc, .slice ia m ic, .int .u64 0, .int .u64 0] [.int .u8 kq, .string tg, .int .u32 0, qc, .slice none 0 0, .pointer pt, .string od, .bool ds, .int .i64 lm, .string ⟨#[]⟩, .int .i64 0, .slice none 0 0, .slice none 0 0, .int .u64 0, .int .u64 0, .bool false] [.int .u8 0, .string ⟨#[]⟩, .int .u8 0, .bool false, .int .i64 0, .string ⟨#[]⟩, .bool false, .int .u8 0, .bool false, .int .i64 0, .string ⟨#[]⟩, .bool false, .int .u32 0, .int .u32 0, .pointer none, .string ⟨#[]⟩, .bool false, .int .i64 0] [.int .u8 1, .string ⟨#[]⟩, .int .u8 0, .bool false, .int .i64 0, .string ⟨#[]⟩, .bool false, .int .u8 0, .bool false, .int .i64 0, .string ⟨#[]⟩, .bool false, .int .u32 fa, .int .u32 fb, .pointer pt, .string od2, .bool ds2, .int .i64 lm2] wF := by rw [hwF]; exact hM.out.alloc _
                        have HF : Has wF bF [.func (.func 47) #[] #[], .func (.func 48) #[] #[]] 125 := by rw [hwF, hbF]; exact Has.new w8 _ _
                        have hlF : bP < bF := by rw [hbF]; exact hM.out.P.lt
                        replace hwF := Lib.hid hwF.symm
                        replace hbF := Lib.hid hbF.symm
                        replace hMF := Lib.hid hMF
                        replace HF := Lib.hid HF
                        replace hlF := Lib.hid hlF
                        clear hM
                        go_wp2_with fail
                        rw [hwF.out, hbF.out]
                        go_loopw [67] (fun iv wr => ∃ q : Nat, q ≤ 2 ∧ iv = .int .i64 (q : Int) ∧ MkSt w bP [.string tg, .int .i64 1, .slice ca 4 cc, .slice ia m ic, .int .u64 0, .int .u64 0] [.int .u8 kq, .string tg, .int .u32 0, qc, .slice none 0 0, .pointer pt, .string od, .bool ds, .int .i64 lm, .string ⟨#[]⟩, .int .i64 0, .slice none 0 0, .slice none 0 0, .int .u64 0, .int .u64 0, .bool false] [.int .u8 0, .string ⟨#[]⟩, .int .u8 0, .bool false, .int .i64 0, .string ⟨#[]⟩, .bool false, .int .u8 0, .bool false, .int .i64 0, .string ⟨#[]⟩, .bool false, .int .u32 0, .int .u32 0, .pointer none, .string ⟨#[]⟩, .bool false, .int .i64 0] [.int .u8 1, .string ⟨#[]⟩, .int .u8 0, .bool false, .int .i64 0, .string ⟨#[]⟩, .bool false, .int .u8 0, .bool false, .int .i64 0, .string ⟨#[]⟩, .bool false, .int .u32 fa, .int .u32 fb, .pointer pt, .string od2, .bool ds2, .int .i64 lm2] wr ∧ Has wr bF [.func (.func 47) #[] #[], .func (.func 48) #[] #[]] 125 ∧ ∀ q', q' < q → ∀ i, i < m → fitI B nm ty q' i = false) (fun iv _ => 2 - (RowKit.intOf iv).toNat)
                        case atStart => exact ⟨0, by omega, rfl, hMF.out, HF.out, fun q' h => by omega⟩
                        case round =>
                          obtain ⟨q, hq, rfl, hMr, HFr, hno⟩ := hrel
                          clear hMF HF hwF hbF
                          by_cases hlt : q < 2
                          rotate_left
                          ·
                            have hq2 : q = 2 := by omega
                            subst hq2
                            have k0 : ¬ ((2 : Nat) : Int) < 2 := by omega
                            have kd : decide (((2 : Nat) : Int) < 2) = false := decide_eq_false k0
                            have hpd : planCells (planD B nm ty m) (fa, fb) (.pointer pt) od2 ds2 lm2 = [.int .u8 1, .string ⟨#[]⟩, .int .u8 0, .bool false, .int .i64 0, .string ⟨#[]⟩, .bool false, .int .u8 0, .bool false, .int .i64 0, .string ⟨#[]⟩, .bool false, .int .u32 fa, .int .u32 fb, .pointer pt, .string od2, .bool ds2, .int .i64 lm2] := by rw [planD_none hidn.out hno]; rfl
                            replace hp2 := hp2.out
                            rw [hpd] at hp2
                            replace hp2 := Lib.hid hp2
                            clear hpd
                            replace hno := Lib.hid hno
                            replace hidn := Lib.hid hidn
                            have hlt := hMr.hb.size
                            have HP := hMr.P
                            have hbr := hMr.hb
                            have HR0 := hMr.R
                            clear hMr
                            replace HP := Lib.hid HP
                            replace HFr := Lib.hid HFr
                            as_aux_lemma =>
                              have HR := HR0
                              obtain ⟨wN, hst, HR9, hO9⟩ := plan_store (new := [.int .u8 1, .string ⟨#[]⟩, .int .u8 0, .bool false, .int .i64 0, .string ⟨#[]⟩, .bool false, .int .u8 0, .bool false, .int .i64 0, .string ⟨#[]⟩, .bool false, .int .u32 fa, .int .u32 fb, .pointer pt, .string od2, .bool ds2, .int .i64 lm2]) HR rfl rfl (by simp [Value.oneCell'])
                              have hld := plan_load (HP.out) rfl
                              replace hld := Lib.hid hld
                              have hfin : post (.returned (.tuple #[.agg #[.int .u8 1, .string ⟨#[]⟩, .int .u8 0, .bool false, .int .i64 0, .string ⟨#[]⟩, .bool false, .int .u8 0, .bool false, .int .i64 0, .string ⟨#[]⟩, .bool false, .int .u32 fa, .int .u32 fb, .pointer pt, .string od2, .bool ds2, .int .i64 lm2], .int .i64 0])) wN := hp2.out _ (hbr.trans (hO9.below (B := w.heap.size) hbr.size (fun k _ e => by omega)))
                              replace hfin := Lib.hid hfin
                              replace hst := Lib.hid hst
                              replace HR9 := Lib.hid HR9
                              clear hO9
                              replace HR := Lib.hid HR
                              go_wp2_with (first | (refine wpList_loadA rfl (.tmp 7) 43 rfl _ hld.out ?_) | (refine wpList_storeA rfl (.tmp 4) (.tmp 111) 43 rfl rfl hst.out ?_))
                              exact bodyPost_ret (results_make rfl rfl HR9.out rfl) rfl hfin.out
                          have k0 : (q : Int) < 2 := by omega
                          have kd : decide ((q : Int) < 2) = true := decide_eq_true k0
                          have kn : (0 : Int) ≤ (q : Int) := by omega
                          obtain ⟨fv, hfv, hfc⟩ : ∃ fv, fv = (if q = 0 then .func (.func 47) #[] #[] else .func (.func 48) #[] #[] : Value) ∧ wr.cell? ⟨bF, q, none⟩ = some fv := by
                            have : q = 0 ∨ q = 1 := by omega
                            rcases this with rfl | rfl
                            · exact ⟨_, rfl, HFr.cell (o := 0) rfl⟩
                            · exact ⟨_, rfl, HFr.cell (o := 1) rfl⟩
                          replace hfv := Lib.hid hfv
                          have chMrT3 := (hMr.T).cell (o := 3) rfl
                          obtain ⟨wq, hwq⟩ : ∃ wq, wq = wr := ⟨_, rfl⟩
                          have hMq : MkSt w bP [.string tg, .int .i64 1, .slice ca 4 cc, .slice ia m ic, .int .u64 0, .int .u64 0] [.int .u8 kq, .string tg, .int .u32 0, qc, .slice none 0 0, .pointer pt, .string od, .bool ds, .int .i64 lm, .string ⟨#[]⟩, .int .i64 0, .slice none 0 0, .slice none 0 0, .int .u64 0, .int .u64 0, .bool false] [.int .u8 0, .string ⟨#[]⟩, .int .u8 0, .bool false, .int .i64 0, .string ⟨#[]⟩, .bool false, .int .u8 0, .bool false, .int .i64 0, .string ⟨#[]⟩, .bool false, .int .u32 0, .int .u32 0, .pointer none, .string ⟨#[]⟩, .bool false, .int .i64 0] [.int .u8 1, .string ⟨#[]⟩, .int .u8 0, .bool false, .int .i64 0, .string ⟨#[]⟩, .bool false, .int .u8 0, .bool false, .int .i64 0, .string ⟨#[]⟩, .bool false, .int .u32 fa, .int .u32 fb, .pointer pt, .string od2, .bool ds2, .int .i64 lm2] wq := by rw [hwq]; exact hMr
                          have HFq : Has wq bF [.func (.func 47) #[] #[], .func (.func 48) #[] #[]] 125 := by rw [hwq]; exact HFr
                          replace hwq := Lib.hid hwq.symm
                          replace hMr := Lib.hid hMr
                          replace HFr := Lib.hid HFr
                          replace hMq := Lib.hid hMq
                          replace HFq := Lib.hid HFq
                          replace hno := Lib.hid hno
                          replace hq := Lib.hid hq
                          replace hlt := Lib.hid hlt
                          go_wp2_with fail
                          rw [hwq.out]
                          clear chMrT3
                          clear hMr HFr hfc
                          go_loopw [74] (fun iv wr => ∃ j : Nat, j ≤ m ∧ iv = .int .i64 (j : Int) ∧ MkSt w bP [.string tg, .int .i64 1, .slice ca 4 cc, .slice ia m ic, .int .u64 0, .int .u64 0] [.int .u8 kq, .string tg, .int .u32 0, qc, .slice none 0 0, .pointer pt, .string od, .bool ds, .int .i64 lm, .string ⟨#[]⟩, .int .i64 0, .slice none 0 0, .slice none 0 0, .int .u64 0, .int .u64 0, .bool false] [.int .u8 0, .string ⟨#[]⟩, .int .u8 0, .bool false, .int .i64 0, .string ⟨#[]⟩, .bool false, .int .u8 0, .bool false, .int .i64 0, .string ⟨#[]⟩, .bool false, .int .u32 0, .int .u32 0, .pointer none, .string ⟨#[]⟩, .bool false, .int .i64 0] [.int .u8 1, .string ⟨#[]⟩, .int .u8 0, .bool false, .int .i64 0, .string ⟨#[]⟩, .bool false, .int .u8 0, .bool false, .int .i64 0, .string ⟨#[]⟩, .bool false, .int .u32 fa, .int .u32 fb, .pointer pt, .string od2, .bool ds2, .int .i64 lm2] wr ∧ Has wr bF [.func (.func 47) #[] #[], .func (.func 48) #[] #[]] 125 ∧ ∀ i, i < j → fitI B nm ty q i = false) (fun iv _ => m - (RowKit.intOf iv).toNat)
                          case atStart => exact ⟨0, by omega, rfl, hMq.out, HFq.out, fun i h => by omega⟩
                          case round =>
                            obtain ⟨j, hj, rfl, hMr, HFr, hni⟩ := hrel
                            clear hMq HFq hwq
                            by_cases hjm : j < m
                            rotate_left
                            ·
                              have hj2 : j = m := by omega
                              subst hj2
                              have k1 : ¬ (j : Int) < (j : Int) := by omega
                              have kd1 : decide ((j : Int) < (j : Int)) = false := decide_eq_false k1
                              have hno2 : ∀ q', q' < q + 1 → ∀ i, i < j → fitI B nm ty q' i = false := fun q' h i hi => by
                                rcases Nat.lt_or_ge q' q with h1 | h1
                                · exact hno.out q' h1 i hi
                                · have : q' = q := by omega
                                  subst this
                                  exact hni i hi
                              replace hMr := Lib.hid hMr
                              replace HFr := Lib.hid HFr
                              replace hno2 := Lib.hid hno2
                              replace hni := Lib.hid hni
                              replace hj := Lib.hid hj
                              go_wp2_with fail
                              go_roundw
                              case rel => first | exact ⟨q + 1, by have := hlt.out; omega, by go_num, hMr.out, HFr.out, hno2.out⟩ | ((repeat apply Exists.intro); exact ⟨⟨q + 1, by have := hlt.out; omega, by go_num, hMr.out, HFr.out, hno2.out⟩, rfl⟩)
                              case measure => have := hlt.out; simp [RowKit.intOf]; omega
                            obtain ⟨bi, oi, hia, hixc⟩ := hix.out j hjm
                            obtain ⟨bc, oc, hca, hpj, hctc⟩ := hct.out j hjm
                            have hfj := hfn.out j hjm
                            have hsj := hsg.out j hjm
                            have hrj := hrg.out j hjm
                            have hbj := hbd.out j hjm
                            obtain ⟨nj, hnj⟩ : ∃ x, nm j = x := ⟨_, rfl⟩
                            obtain ⟨tj, htj⟩ : ∃ x, ty j = x := ⟨_, rfl⟩
                            obtain ⟨pj, hpjj⟩ : ∃ x, pos j = x := ⟨_, rfl⟩
                            obtain ⟨⟨⟨tc, nc, ic0, xc, bc0⟩, ⟨td, nd, id0, xd, bd⟩, ex1⟩, hBj⟩ : ∃ s, B nj = s := ⟨_, rfl⟩
                            rw [hnj] at hixc hfj hsj hrj hbj
                            rw [htj] at hctc hsj hrj
                            rw [hpjj] at hctc hfj hpj
                            rw [hBj] at hbj hsj hrj
                            unfold bndV at hbj
                            dsimp only [RV.val] at hbj hsj hrj
                            replace hfj := Lib.hid hfj
                            replace hsj := Lib.hid hsj
                            replace hrj := Lib.hid hrj
                            replace hbj := Lib.hid hbj
                            replace hnj := Lib.hid hnj
                            replace htj := Lib.hid htj
                            replace hpjj := Lib.hid hpjj
                            replace hBj := Lib.hid hBj
                            replace hctc := Lib.hid hctc
                            replace hni := Lib.hid hni
                            replace hj := Lib.hid hj
                            clear hfn hsg hrg hbd hix hct hb0
                            subst hia
                            subst hca
                            have k1 : (j : Int) < (m : Int) := by omega
                            have kd1 : decide ((j : Int) < (m : Int)) = true := decide_eq_true k1
                            have kn1 : (0 : Int) ≤ (j : Int) := by omega
                            obtain ⟨i0, i1⟩ := hixc wr hMr.hb
                            clear hixc
                            obtain ⟨bI, hbI⟩ : ∃ b, b = wr.heap.size := ⟨_, rfl⟩
                            obtain ⟨wI, hwI⟩ : ∃ wI, wI = wr.alloc (.cells #[.string nj, .bool false] 111) := ⟨_, rfl⟩
                            have hMI : MkSt w bP [.string tg, .int .i64 1, .slice (some ⟨bc, oc, none⟩) 4 cc, .slice (some ⟨bi, oi, none⟩) m ic, .int .u64 0, .int .u64 0] [.int .u8 kq, .string tg, .int .u32 0, qc, .slice none 0 0, .pointer pt, .string od, .bool ds, .int .i64 lm, .string ⟨#[]⟩, .int .i64 0, .slice none 0 0, .slice none 0 0, .int .u64 0, .int .u64 0, .bool false] [.int .u8 0, .string ⟨#[]⟩, .int .u8 0, .bool false, .int .i64 0, .string ⟨#[]⟩, .bool false, .int .u8 0, .bool false, .int .i64 0, .string ⟨#[]⟩, .bool false, .int .u32 0, .int .u32 0, .pointer none, .string ⟨#[]⟩, .bool false, .int .i64 0] [.int .u8 1, .string ⟨#[]⟩, .int .u8 0, .bool false, .int .i64 0, .string ⟨#[]⟩, .bool false, .int .u8 0, .bool false, .int .i64 0, .string ⟨#[]⟩, .bool false, .int .u32 fa, .int .u32 fb, .pointer pt, .string od2, .bool ds2, .int .i64 lm2] wI := by rw [hwI]; exact hMr.alloc _
                            have HFI : Has wI bF [.func (.func 47) #[] #[], .func (.func 48) #[] #[]] 125 := by rw [hwI]; exact HFr.alloc _
                            have HI : Has wI bI [.string nj, .bool false] 111 := by rw [hwI, hbI]; exact Has.new wr _ _
                            have hlI := Lib.hid (show bP < bI from by rw [hbI]; exact hMr.P.lt)
                            replace hwI := Lib.hid hwI.symm
                            replace hbI := Lib.hid hbI.symm
                            replace hMr := Lib.hid hMr
                            replace HFr := Lib.hid HFr
                            replace hMI := Lib.hid hMI
                            replace HFI := Lib.hid HFI
                            replace HI := Lib.hid HI
                            go_upto_region 17 with fail
                            go_cut [14] (fun q1 wx => q1 = .pointer (some ⟨bI, 0, none⟩) ∧ wI = wx)
                            case first =>
                              as_aux_lemma =>
                                go_wp2_with fail
                                rw [hwI.out, hbI.out]
                                go_meet
                                exact ⟨rfl, rfl⟩
                            case rest =>
                              rename World => w17
                              obtain ⟨rfl, rfl⟩ := hcut
                              clear i0 i1 hMr HFr hwI hbI
                              as_aux_lemma =>
                                have hbx := Lib.hid (hbj.out wI hMI.out.hb)
                                have chMIS5 := (hMI.out.S).cell (o := 5) rfl
                                have cHI0 := (HI.out).cell (o := 0) rfl
                                have cHI1 := (HI.out).cell (o := 1) rfl
                                go_upto_region 18 with fail
                                go_cut [15, 16] (fun q1 q2 wx => ∃ bL bH, q1 = .pointer (some ⟨bL, 0, none⟩) ∧ q2 = .pointer (some ⟨bH, 0, none⟩) ∧ MkSt w bP [.string tg, .int .i64 1, .slice (some ⟨bc, oc, none⟩) 4 cc, .slice (some ⟨bi, oi, none⟩) m ic, .int .u64 0, .int .u64 0] [.int .u8 kq, .string tg, .int .u32 0, qc, .slice none 0 0, .pointer pt, .string od, .bool ds, .int .i64 lm, .string ⟨#[]⟩, .int .i64 0, .slice none 0 0, .slice none 0 0, .int .u64 0, .int .u64 0, .bool false] [.int .u8 0, .string ⟨#[]⟩, .int .u8 0, .bool false, .int .i64 0, .string ⟨#[]⟩, .bool false, .int .u8 0, .bool false, .int .i64 0, .string ⟨#[]⟩, .bool false, .int .u32 0, .int .u32 0, .pointer none, .string ⟨#[]⟩, .bool false, .int .i64 0] [.int .u8 1, .string ⟨#[]⟩, .int .u8 0, .bool false, .int .i64 0, .string ⟨#[]⟩, .bool false, .int .u8 0, .bool false, .int .i64 0, .string ⟨#[]⟩, .bool false, .int .u32 fa, .int .u32 fb, .pointer pt, .string od2, .bool ds2, .int .i64 lm2] wx ∧ Has wx bF [.func (.func 47) #[] #[], .func (.func 48) #[] #[]] 125 ∧ Has wx bI [.string nj, .bool false] 111 ∧ Has wx bL [.int .u8 (tc : Int), .bool nc, .int .i64 ic0, .string xc, .bool bc0] 28 ∧ Has wx bH [.int .u8 (td : Int), .bool nd, .int .i64 id0, .string xd, .bool bd] 28 ∧ bP < bL ∧ bP < bH)
                                case first =>
                                  as_aux_lemma =>
                                    go_wp2_with fail
                                    refine hbx.out.mono ?_
                                    rintro e w18 ⟨rfl, hb18⟩
                                    have hM8 := Lib.hid (hMI.out.below hb18)
                                    have HF8 := Lib.hid (HFI.out.only (Only.of_below hb18) (Nat.not_le.2 HFI.out.lt))
                                    have HI8 := Lib.hid (HI.out.only (Only.of_below hb18) (Nat.not_le.2 HI.out.lt))
                                    clear hb18
                                    go_wp2_with fail
                                    go_meet
                                    exact ⟨w18.heap.size, w18.heap.size + 1, rfl, rfl, (hM8.out.alloc _).alloc _, (HF8.out.alloc _).alloc _, (HI8.out.alloc _).alloc _, (Has.new w18 _ _).alloc _, by have h := Has.new (w18.alloc (.cells #[.int .u8 (tc : Int), .bool nc, .int .i64 ic0, .string xc, .bool bc0] 28)) [.int .u8 (td : Int), .bool nd, .int .i64 id0, .string xd, .bool bd] 28; simp only [World.size_alloc] at h; exact h, hM8.out.P.lt, Nat.lt_succ_of_lt hM8.out.P.lt⟩
                                case rest =>
                                  clear chMIS5 cHI0 cHI1
                                  rename World => w18
                                  obtain ⟨bL2, bH2, rfl, rfl, hM8, HF8, HI8, HL8, HH8, lL2, lH2⟩ := hcut
                                  replace lL2 := Lib.hid lL2
                                  replace lH2 := Lib.hid lH2
                                  clear hMI HFI HI hbx hbj
                                  replace hM8 := Lib.hid hM8
                                  replace HF8 := Lib.hid HF8
                                  replace HI8 := Lib.hid HI8
                                  replace HL8 := Lib.hid HL8
                                  replace HH8 := Lib.hid HH8
                                  as_aux_lemma =>
                                    obtain ⟨fr, hfr⟩ : ∃ fr, fitI B nm ty q j = fr := ⟨_, rfl⟩
                                    have hcF : ∀ wx, Below w18.heap.size w18 wx → Calls Tryz.prog 26 #[.agg #[.string tg, .int .i64 1, .slice (some ⟨bc, oc, none⟩) 4 cc, .slice (some ⟨bi, oi, none⟩) m ic, .int .u64 0, .int .u64 0], .string nj] wx (fun e w2 => e = .returned (.int .i64 (pj : Int)) ∧ Below w18.heap.size w18 w2) := fun wx hx => (hfj.out wx (hM8.out.hb.trans (hx.mono hM8.out.hb.size))).mono fun e w2 ⟨he, hb⟩ => ⟨he, hx.trans (hb.mono hx.size)⟩
                                    have hcS : q = 0 → ∀ wx, Below w18.heap.size w18 wx → Calls Tryz.prog 47 #[.int .u8 (tj : Int), .agg #[.int .u8 (tc : Int), .bool nc, .int .i64 ic0, .string xc, .bool bc0], .agg #[.int .u8 (td : Int), .bool nd, .int .i64 id0, .string xd, .bool bd]] wx (fun e w2 => e = .returned (.bool fr) ∧ Below w18.heap.size w18 w2) := fun hq0 wx hx => by
                                      subst hq0
                                      rw [← hfr]
                                      exact (hsj.out wx (hM8.out.hb.trans (hx.mono hM8.out.hb.size))).mono fun e w2 ⟨he, hb⟩ => ⟨he, hx.trans (hb.mono hx.size)⟩
                                    have hcR : q = 1 → ∀ wx, Below w18.heap.size w18 wx → Calls Tryz.prog 48 #[.int .u8 (tj : Int), .agg #[.int .u8 (tc : Int), .bool nc, .int .i64 ic0, .string xc, .bool bc0], .agg #[.int .u8 (td : Int), .bool nd, .int .i64 id0, .string xd, .bool bd]] wx (fun e w2 => e = .returned (.bool fr) ∧ Below w18.heap.size w18 w2) := fun hq0 wx hx => by
                                      subst hq0
                                      rw [← hfr]
                                      exact (hrj.out wx (hM8.out.hb.trans (hx.mono hM8.out.hb.size))).mono fun e w2 ⟨he, hb⟩ => ⟨he, hx.trans (hb.mono hx.size)⟩
                                    have hkT : ∀ wx, Below w18.heap.size w18 wx → MkSt w bP [.string tg, .int .i64 1, .slice (some ⟨bc, oc, none⟩) 4 cc, .slice (some ⟨bi, oi, none⟩) m ic, .int .u64 0, .int .u64 0] [.int .u8 kq, .string tg, .int .u32 0, qc, .slice none 0 0, .pointer pt, .string od, .bool ds, .int .i64 lm, .string ⟨#[]⟩, .int .i64 0, .slice none 0 0, .slice none 0 0, .int .u64 0, .int .u64 0, .bool false] [.int .u8 0, .string ⟨#[]⟩, .int .u8 0, .bool false, .int .i64 0, .string ⟨#[]⟩, .bool false, .int .u8 0, .bool false, .int .i64 0, .string ⟨#[]⟩, .bool false, .int .u32 0, .int .u32 0, .pointer none, .string ⟨#[]⟩, .bool false, .int .i64 0] [.int .u8 1, .string ⟨#[]⟩, .int .u8 0, .bool false, .int .i64 0, .string ⟨#[]⟩, .bool false, .int .u8 0, .bool false, .int .i64 0, .string ⟨#[]⟩, .bool false, .int .u32 fa, .int .u32 fb, .pointer pt, .string od2, .bool ds2, .int .i64 lm2] wx ∧ Has wx bI [.string nj, .bool false] 111 ∧ Has wx bL2 [.int .u8 (tc : Int), .bool nc, .int .i64 ic0, .string xc, .bool bc0] 28 ∧ Has wx bH2 [.int .u8 (td : Int), .bool nd, .int .i64 id0, .string xd, .bool bd] 28 := fun wx hx => ⟨hM8.out.below hx, HI8.out.only (Only.of_below hx) (Nat.not_le.2 HI8.out.lt), HL8.out.only (Only.of_below hx) (Nat.not_le.2 HL8.out.lt), HH8.out.only (Only.of_below hx) (Nat.not_le.2 HH8.out.lt)⟩
                                    have hkE : ∀ wx, Below w18.heap.size w18 wx → wx.cell? ⟨bc, oc + pj * 9 + 1, none⟩ = some (.int .u8 (tj : Int)) := fun wx hx => hctc.out wx (hM8.out.hb.trans (hx.mono hM8.out.hb.size))
                                    replace hcF := Lib.hid hcF
                                    replace hcS := Lib.hid hcS
                                    replace hcR := Lib.hid hcR
                                    replace hkT := Lib.hid hkT
                                    replace hkE := Lib.hid hkE
                                    replace hfr := Lib.hid hfr
                                    go_upto_region 19 with fail
                                    go_cut [99] (fun q1 wx => q1 = .bool fr ∧ Below w18.heap.size w18 wx)
                                    case first =>
                                      as_aux_lemma =>
                                        have hpI : (0 : Int) ≤ (pj : Int) ∧ (pj : Int) < 4 ∧ decide ((pj : Int) < 4) = true ∧ decide ((0 : Int) ≤ (pj : Int)) = true := by have := hpj; refine ⟨by omega, by omega, decide_eq_true (by omega), decide_eq_true (by omega)⟩
                                        obtain ⟨p0, p1, p2, p3⟩ := hpI
                                        have hq01 : q = 0 ∨ q = 1 := by have := hlt.out; omega
                                        refine wp_region_quietC (C := fun wx => Below w18.heap.size w18 wx) (by kernel_rfl) (by kernel_rfl) (below_drew (Below.refl _ _)) ?_
                                        iterate 2 (go_big_quiet_want; go_big_quiet_op; first | go_big_quiet_on | (refine ⟨_, fun _ _ => rfl, ?_⟩; go_big_quiet_on))
                                        go_big_quiet_want; go_big_quiet_op
                                        refine ⟨.slice (some ⟨bc, oc, none⟩) 4 cc, fun wx hx => by simp [go_sem, (hkT.out wx hx).1.T.cell (o := 2) rfl], ?_⟩
                                        go_big_quiet_on
                                        go_big_quiet_want; go_big_quiet_op
                                        refine ⟨.agg #[.string tg, .int .i64 1, .slice (some ⟨bc, oc, none⟩) 4 cc, .slice (some ⟨bi, oi, none⟩) m ic, .int .u64 0, .int .u64 0], fun wx hx => by simp [go_sem, ((hkT.out wx hx).1.T).cell (o := 0) rfl, ((hkT.out wx hx).1.T).cell (o := 1) rfl, ((hkT.out wx hx).1.T).cell (o := 2) rfl, ((hkT.out wx hx).1.T).cell (o := 3) rfl, ((hkT.out wx hx).1.T).cell (o := 4) rfl, ((hkT.out wx hx).1.T).cell (o := 5) rfl], ?_⟩
                                        go_big_quiet_on
                                        iterate 1 (go_big_quiet_want; go_big_quiet_op; first | go_big_quiet_on | (refine ⟨_, fun _ _ => rfl, ?_⟩; go_big_quiet_on))
                                        go_big_quiet_want; go_big_quiet_op
                                        refine ⟨.string nj, fun wx hx => by simp [go_sem, (hkT.out wx hx).2.1.cell (o := 0) rfl], ?_⟩
                                        go_big_quiet_on
                                        go_big_quiet_want; go_big_quiet_op
                                        refine ⟨.int .i64 (pj : Int), fun wx hx => hcF.out wx hx, ?_⟩
                                        go_big_quiet_on
                                        go_big_quiet_want; go_big_quiet_op
                                        refine ⟨.pointer (some ⟨bc, oc + pj * 9, none⟩), fun wx hx => by simp [go_sem, p0, p1, p2, p3], ?_⟩
                                        go_big_quiet_on
                                        iterate 1 (go_big_quiet_want; go_big_quiet_op; first | go_big_quiet_on | (refine ⟨_, fun _ _ => rfl, ?_⟩; go_big_quiet_on))
                                        go_big_quiet_want; go_big_quiet_op
                                        refine ⟨.int .u8 (tj : Int), fun wx hx => by simp [go_sem, hkE.out wx hx], ?_⟩
                                        go_big_quiet_on
                                        go_big_quiet_want; go_big_quiet_op
                                        refine ⟨.agg #[.int .u8 (tc : Int), .bool nc, .int .i64 ic0, .string xc, .bool bc0], fun wx hx => by simp [go_sem, ((hkT.out wx hx).2.2.1).cell (o := 0) rfl, ((hkT.out wx hx).2.2.1).cell (o := 1) rfl, ((hkT.out wx hx).2.2.1).cell (o := 2) rfl, ((hkT.out wx hx).2.2.1).cell (o := 3) rfl, ((hkT.out wx hx).2.2.1).cell (o := 4) rfl], ?_⟩
                                        go_big_quiet_on
                                        go_big_quiet_want; go_big_quiet_op
                                        refine ⟨.agg #[.int .u8 (td : Int), .bool nd, .int .i64 id0, .string xd, .bool bd], fun wx hx => by simp [go_sem, ((hkT.out wx hx).2.2.2).cell (o := 0) rfl, ((hkT.out wx hx).2.2.2).cell (o := 1) rfl, ((hkT.out wx hx).2.2.2).cell (o := 2) rfl, ((hkT.out wx hx).2.2.2).cell (o := 3) rfl, ((hkT.out wx hx).2.2.2).cell (o := 4) rfl], ?_⟩
                                        go_big_quiet_on
                                        rcases hq01 with hq0 | hq0
                                        ·
                                          have hfv2 := hfv.out
                                          subst hq0
                                          first | rw [if_pos rfl] at hfv2 | rw [if_neg (by decide)] at hfv2
                                          subst hfv2
                                          go_big_quiet_want; go_big_quiet_op
                                          refine ⟨.bool fr, fun wx hx => hcS.out rfl wx hx, ?_⟩
                                          go_big_quiet_on
                                          refine wpQuiet_nil ?_
                                          intro w' hw'
                                          replace hw' := Lib.hid hw'
                                          go_wp2_with fail
                                          go_meet
                                          exact ⟨rfl, hw'.out⟩
                                        ·
                                          have hfv2 := hfv.out
                                          subst hq0
                                          first | rw [if_pos rfl] at hfv2 | rw [if_neg (by decide)] at hfv2
                                          subst hfv2
                                          go_big_quiet_want; go_big_quiet_op
                                          refine ⟨.bool fr, fun wx hx => hcR.out rfl wx hx, ?_⟩
                                          go_big_quiet_on
                                          refine wpQuiet_nil ?_
                                          intro w' hw'
                                          replace hw' := Lib.hid hw'
                                          go_wp2_with fail
                                          go_meet
                                          exact ⟨rfl, hw'.out⟩
                                    case rest =>
                                      rename World => w19
                                      obtain ⟨rfl, hb19⟩ := hcut
                                      obtain ⟨hM9, HI9, HL9, HH9⟩ := hkT.out w19 hb19
                                      have HF9 := HF8.out.only (Only.of_below hb19) (Nat.not_le.2 HF8.out.lt)
                                      clear hM8 HI8 HL8 HH8 HF8 hkT hkE hcF hcS hcR hctc hfj hsj hrj hfv
                                      replace hM9 := Lib.hid hM9
                                      replace HI9 := Lib.hid HI9
                                      replace HL9 := Lib.hid HL9
                                      replace HH9 := Lib.hid HH9
                                      replace HF9 := Lib.hid HF9
                                      replace hb19 := Lib.hid hb19
                                      cases fr with
                                      | false =>
                                        have hni2 : ∀ i, i < j + 1 → fitI B nm ty q i = false := fun i hi => by
                                          rcases Nat.lt_or_ge i j with h1 | h1
                                          · exact hni.out i h1
                                          · have : i = j := by omega
                                            subst this
                                            exact hfr.out
                                        replace hni2 := Lib.hid hni2
                                        clear HI9 HL9 HH9
                                        replace hjm := Lib.hid hjm
                                        go_wp2_with fail
                                        go_roundw
                                        case rel => first | exact ⟨j + 1, by have := hjm.out; omega, by go_num, hM9.out, HF9.out, hni2.out⟩ | ((repeat apply Exists.intro); exact ⟨⟨j + 1, by have := hjm.out; omega, by go_num, hM9.out, HF9.out, hni2.out⟩, rfl⟩)
                                        case measure => have := hjm.out; simp [RowKit.intOf]; omega
                                      | true =>
                                        as_aux_lemma =>
                                          have cHI90 := (HI9.out).cell (o := 0) rfl
                                          have cHL90 := (HL9.out).cell (o := 0) rfl
                                          have cHL91 := (HL9.out).cell (o := 1) rfl
                                          have cHL92 := (HL9.out).cell (o := 2) rfl
                                          have cHL93 := (HL9.out).cell (o := 3) rfl
                                          have cHL94 := (HL9.out).cell (o := 4) rfl
                                          have cHH90 := (HH9.out).cell (o := 0) rfl
                                          have cHH91 := (HH9.out).cell (o := 1) rfl
                                          have cHH92 := (HH9.out).cell (o := 2) rfl
                                          have cHH93 := (HH9.out).cell (o := 3) rfl
                                          have cHH94 := (HH9.out).cell (o := 4) rfl
                                          have chM9P0 := (hM9.out.P).cell (o := 0) rfl
                                          have chM9P1 := (hM9.out.P).cell (o := 1) rfl
                                          have chM9P2 := (hM9.out.P).cell (o := 2) rfl
                                          have chM9P3 := (hM9.out.P).cell (o := 3) rfl
                                          have chM9P4 := (hM9.out.P).cell (o := 4) rfl
                                          have chM9P5 := (hM9.out.P).cell (o := 5) rfl
                                          have chM9P6 := (hM9.out.P).cell (o := 6) rfl
                                          have chM9P7 := (hM9.out.P).cell (o := 7) rfl
                                          have chM9P8 := (hM9.out.P).cell (o := 8) rfl
                                          have chM9P9 := (hM9.out.P).cell (o := 9) rfl
                                          have chM9P10 := (hM9.out.P).cell (o := 10) rfl
                                          have chM9P11 := (hM9.out.P).cell (o := 11) rfl
                                          have fhM9P0 := (hM9.out.P).free 0
                                          have fhM9P1 := (hM9.out.P).free 1
                                          have fhM9P2 := (hM9.out.P).free 2
                                          have fhM9P3 := (hM9.out.P).free 3
                                          have fhM9P4 := (hM9.out.P).free 4
                                          have fhM9P5 := (hM9.out.P).free 5
                                          have fhM9P6 := (hM9.out.P).free 6
                                          have fhM9P7 := (hM9.out.P).free 7
                                          have fhM9P8 := (hM9.out.P).free 8
                                          have fhM9P9 := (hM9.out.P).free 9
                                          have fhM9P10 := (hM9.out.P).free 10
                                          have fhM9P11 := (hM9.out.P).free 11
                                          go_upto_region 20 with fail
                                          go_cut [74] (fun q1 wx => q1 = .int .i64 (j : Int) ∧ MkSt w bP [.string tg, .int .i64 1, .slice (some ⟨bc, oc, none⟩) 4 cc, .slice (some ⟨bi, oi, none⟩) m ic, .int .u64 0, .int .u64 0] [.int .u8 kq, .string tg, .int .u32 0, qc, .slice none 0 0, .pointer pt, .string od, .bool ds, .int .i64 lm, .string ⟨#[]⟩, .int .i64 0, .slice none 0 0, .slice none 0 0, .int .u64 0, .int .u64 0, .bool false] [.int .u8 0, .string ⟨#[]⟩, .int .u8 0, .bool false, .int .i64 0, .string ⟨#[]⟩, .bool false, .int .u8 0, .bool false, .int .i64 0, .string ⟨#[]⟩, .bool false, .int .u32 0, .int .u32 0, .pointer none, .string ⟨#[]⟩, .bool false, .int .i64 0] [.int .u8 3, .string nj, .int .u8 (tc : Int), .bool nc, .int .i64 ic0, .string xc, .bool bc0, .int .u8 (td : Int), .bool nd, .int .i64 id0, .string xd, .bool bd, .int .u32 fa, .int .u32 fb, .pointer pt, .string od2, .bool ds2, .int .i64 lm2] wx)
                                          case first =>
                                            as_aux_lemma =>
                                              clear cHI90 cHL90 cHL91 cHL92 cHL93 cHL94 cHH90 cHH91 cHH92 cHH93 cHH94 chM9P0 chM9P1 chM9P2 chM9P3 chM9P4 chM9P5 chM9P6 chM9P7 chM9P8 chM9P9 chM9P10 chM9P11 fhM9P0 fhM9P1 fhM9P2 fhM9P3 fhM9P4 fhM9P5 fhM9P6 fhM9P7 fhM9P8 fhM9P9 fhM9P10 fhM9P11
                                              have hne := Lib.hid (show bI ≠ bP ∧ bL2 ≠ bP ∧ bH2 ≠ bP from by have := hlI.out; have := lL2.out; have := lH2.out; omega)
                                              refine wp_region_part [5, 7, 9, 11] [[], [], [], []] [] (P4 w w19 bP [.string tg, .int .i64 1, .slice (some ⟨bc, oc, none⟩) 4 cc, .slice (some ⟨bi, oi, none⟩) m ic, .int .u64 0, .int .u64 0] [.int .u8 kq, .string tg, .int .u32 0, qc, .slice none 0 0, .pointer pt, .string od, .bool ds, .int .i64 lm, .string ⟨#[]⟩, .int .i64 0, .slice none 0 0, .slice none 0 0, .int .u64 0, .int .u64 0, .bool false] [.int .u8 0, .string ⟨#[]⟩, .int .u8 0, .bool false, .int .i64 0, .string ⟨#[]⟩, .bool false, .int .u8 0, .bool false, .int .i64 0, .string ⟨#[]⟩, .bool false, .int .u32 0, .int .u32 0, .pointer none, .string ⟨#[]⟩, .bool false, .int .i64 0] (.int .u8 1) (.string ⟨#[]⟩) (.int .u8 3) (.string nj) ⟨.int .u8 0, .bool false, .int .i64 0, .string ⟨#[]⟩, .bool false⟩ ⟨.int .u8 0, .bool false, .int .i64 0, .string ⟨#[]⟩, .bool false⟩ ⟨.int .u8 (tc : Int), .bool nc, .int .i64 ic0, .string xc, .bool bc0⟩ ⟨.int .u8 (td : Int), .bool nd, .int .i64 id0, .string xd, .bool bd⟩ [.int .u32 fa, .int .u32 fb, .pointer pt, .string od2, .bool ds2, .int .i64 lm2]) (by kernel_rfl) (by kernel_rfl) (by kernel_rfl) (P4.start hM9.out) P4.ex (fun Hf hx => ?_)
                                              obtain ⟨w', hx⟩ := hx
                                              obtain ⟨hv, _⟩ := hx.done
                                              have v0e := hv 0 (by decide)
                                              have v1e := hv 1 (by decide)
                                              have v2e := hv 2 (by decide)
                                              have v3e := hv 3 (by decide)
                                              clear hv hx
                                              refine part_chunk [] 5 _ _ _ (by kernel_rfl) (by kernel_rfl) (by decide) ?_
                                              simp only [List.take_succ_cons, List.take_zero, List.drop_succ_cons, List.drop_zero]
                                              iterate 1 (go_big_quiet_want; go_big_quiet_op; first | go_big_quiet_on | (refine ⟨_, fun _ _ => rfl, ?_⟩; go_big_quiet_on))
                                              go_big_quiet_want; go_big_quiet_op
                                              refine ⟨.string nj, fun wx hx => by
                                                  have h := HI9.out.only (P4.at hx) hne.out.1
                                                  simp [go_sem, h.cell (o := 0) rfl], ?_⟩
                                              go_big_quiet_on
                                              go_big_quiet_want; go_big_quiet_op
                                              refine ⟨.agg #[.int .u8 (tc : Int), .bool nc, .int .i64 ic0, .string xc, .bool bc0], fun wx hx => by
                                                  have h := HL9.out.only (P4.at hx) hne.out.2.1
                                                  simp [go_sem, h.cell (o := 0) rfl, h.cell (o := 1) rfl, h.cell (o := 2) rfl, h.cell (o := 3) rfl, h.cell (o := 4) rfl], ?_⟩
                                              go_big_quiet_on
                                              go_big_quiet_want; go_big_quiet_op
                                              refine ⟨.agg #[.int .u8 (td : Int), .bool nd, .int .i64 id0, .string xd, .bool bd], fun wx hx => by
                                                  have h := HH9.out.only (P4.at hx) hne.out.2.2
                                                  simp [go_sem, h.cell (o := 0) rfl, h.cell (o := 1) rfl, h.cell (o := 2) rfl, h.cell (o := 3) rfl, h.cell (o := 4) rfl], ?_⟩
                                              go_big_quiet_on
                                              iterate 1 (go_big_quiet_want; go_big_quiet_op; first | go_big_quiet_on | (refine ⟨_, fun _ _ => rfl, ?_⟩; go_big_quiet_on))
                                              refine wpQuiet_nil ?_
                                              refine part_step (s := 0) v0e (by go_simp; exact rfl) (by kernel_rfl) (by kernel_rfl) (fun H wx hs hn hp hc => ?_) ?_
                                              · have q0 := hc.cell0 hn
                                                have f0 := hc.free 0
                                                exact callUpon_skip (by simp [go_sem, q0, f0]; try rfl) hc.s0
                                              refine part_chunk [] 1 _ _ _ (by kernel_rfl) (by kernel_rfl) (by decide) ?_
                                              simp only [List.take_succ_cons, List.take_zero, List.drop_succ_cons, List.drop_zero]
                                              iterate 1 (go_big_quiet_want; go_big_quiet_op; first | go_big_quiet_on | (refine ⟨_, fun _ _ => rfl, ?_⟩; go_big_quiet_on))
                                              refine wpQuiet_nil ?_
                                              refine part_step (s := 1) v1e (by go_simp; exact rfl) (by kernel_rfl) (by kernel_rfl) (fun H wx hs hn hp hc => ?_) ?_
                                              · have q1 := hc.cell1 hn
                                                have f1 := hc.free 1
                                                exact callUpon_skip (by simp [go_sem, q1, f1]; try rfl) hc.s1
                                              refine part_chunk [] 1 _ _ _ (by kernel_rfl) (by kernel_rfl) (by decide) ?_
                                              simp only [List.take_succ_cons, List.take_zero, List.drop_succ_cons, List.drop_zero]
                                              iterate 1 (go_big_quiet_want; go_big_quiet_op; first | go_big_quiet_on | (refine ⟨_, fun _ _ => rfl, ?_⟩; go_big_quiet_on))
                                              refine wpQuiet_nil ?_
                                              refine part_step (s := 2) v2e (by go_simp; exact rfl) (by kernel_rfl) (by kernel_rfl) (fun H wx hs hn hp hc => ?_) ?_
                                              · obtain ⟨q2, q3, q4, q5, q6⟩ := hc.cellsL hn
                                                have f2 := hc.free 2
                                                have f3 := hc.free 3
                                                have f4 := hc.free 4
                                                have f5 := hc.free 5
                                                have f6 := hc.free 6
                                                exact callUpon_skip (by simp [go_sem, q2, q3, q4, q5, q6, f2, f3, f4, f5, f6]; try rfl) hc.s2
                                              refine part_chunk [] 1 _ _ _ (by kernel_rfl) (by kernel_rfl) (by decide) ?_
                                              simp only [List.take_succ_cons, List.take_zero, List.drop_succ_cons, List.drop_zero]
                                              iterate 1 (go_big_quiet_want; go_big_quiet_op; first | go_big_quiet_on | (refine ⟨_, fun _ _ => rfl, ?_⟩; go_big_quiet_on))
                                              refine wpQuiet_nil ?_
                                              refine part_step (s := 3) v3e (by go_simp; exact rfl) (by kernel_rfl) (by kernel_rfl) (fun H wx hs hn hp hc => ?_) ?_
                                              · obtain ⟨q7, q8, q9, q10, q11⟩ := hc.cellsH hn
                                                have f7 := hc.free 7
                                                have f8 := hc.free 8
                                                have f9 := hc.free 9
                                                have f10 := hc.free 10
                                                have f11 := hc.free 11
                                                exact callUpon_skip (by simp [go_sem, q7, q8, q9, q10, q11, f7, f8, f9, f10, f11]; try rfl) hc.s3
                                              intro wz hz
                                              obtain ⟨_, hZ⟩ := hz.done
                                              replace hZ := Lib.hid hZ
                                              clear hz
                                              go_wp2_with fail
                                              go_meet
                                              exact ⟨rfl, hZ.out⟩
                                          case rest =>
                                            clear cHI90 cHL90 cHL91 cHL92 cHL93 cHL94 cHH90 cHH91 cHH92 cHH93 cHH94 chM9P0 chM9P1 chM9P2 chM9P3 chM9P4 chM9P5 chM9P6 chM9P7 chM9P8 chM9P9 chM9P10 chM9P11 fhM9P0 fhM9P1 fhM9P2 fhM9P3 fhM9P4 fhM9P5 fhM9P6 fhM9P7 fhM9P8 fhM9P9 fhM9P10 fhM9P11
                                            rename World => w20
                                            obtain ⟨rfl, hM10⟩ := hcut
                                            clear hM9 HI9 HL9 HH9 HF9 hb19
                                            as_aux_lemma =>
                                              have hpd : planCells (planD B nm ty m) (fa, fb) (.pointer pt) od2 ds2 lm2 = [.int .u8 3, .string nj, .int .u8 (tc : Int), .bool nc, .int .i64 ic0, .string xc, .bool bc0, .int .u8 (td : Int), .bool nd, .int .i64 id0, .string xd, .bool bd, .int .u32 fa, .int .u32 fb, .pointer pt, .string od2, .bool ds2, .int .i64 lm2] := by rw [planD_fit hidn.out q j hlt.out hjm hfr.out hni.out hno.out, ofI, hnj.out, hBj.out]; rfl
                                              replace hp2 := hp2.out
                                              rw [hpd] at hp2
                                              replace hp2 := Lib.hid hp2
                                              clear hpd
                                              have hlt2 := hM10.hb.size
                                              have HP := hM10.P
                                              have hbr := hM10.hb
                                              have HR0 := hM10.R
                                              clear hM10
                                              replace HP := Lib.hid HP
                                              have HR := HR0
                                              obtain ⟨wN, hst, HR9, hO9⟩ := plan_store (new := [.int .u8 3, .string nj, .int .u8 (tc : Int), .bool nc, .int .i64 ic0, .string xc, .bool bc0, .int .u8 (td : Int), .bool nd, .int .i64 id0, .string xd, .bool bd, .int .u32 fa, .int .u32 fb, .pointer pt, .string od2, .bool ds2, .int .i64 lm2]) HR rfl rfl (by simp [Value.oneCell'])
                                              have hld := plan_load (HP.out) rfl
                                              replace hld := Lib.hid hld
                                              have hfin : post (.returned (.tuple #[.agg #[.int .u8 3, .string nj, .int .u8 (tc : Int), .bool nc, .int .i64 ic0, .string xc, .bool bc0, .int .u8 (td : Int), .bool nd, .int .i64 id0, .string xd, .bool bd, .int .u32 fa, .int .u32 fb, .pointer pt, .string od2, .bool ds2, .int .i64 lm2], .int .i64 0])) wN := hp2.out _ (hbr.trans (hO9.below (B := w.heap.size) hbr.size (fun k _ e => by omega)))
                                              replace hfin := Lib.hid hfin
                                              replace hst := Lib.hid hst
                                              replace HR9 := Lib.hid HR9
                                              clear hO9
                                              replace HR := Lib.hid HR
                                              go_wp2_with (first | (refine wpList_loadA rfl (.tmp 7) 43 rfl _ hld.out ?_) | (refine wpList_storeA rfl (.tmp 4) (.tmp 108) 43 rfl rfl hst.out ?_))
                                              exact bodyPost_ret (results_make rfl rfl HR9.out rfl) rfl hfin.out
end Go.Proofs.YtgnoikfmhncbmaaGreatDoor
