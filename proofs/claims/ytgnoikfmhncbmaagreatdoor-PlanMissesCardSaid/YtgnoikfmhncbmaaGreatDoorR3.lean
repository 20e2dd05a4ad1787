/- The walk of Column.Fits, and row.valid. -/
import Derived.Test.YtgnoikfmhncbmaaGreatDoorR2
import Derived.Test.YtgnoikfmhncbmaaGreatDoorLib
set_option linter.unusedVariables false
set_option linter.unusedSimpArgs false
namespace Go.Proofs.YtgnoikfmhncbmaaGreatDoor
open Go.RowKit Go.Lib
set_option maxHeartbeats 4000000 in
set_option maxRecDepth 100000 in
theorem fits_any (nm : ByteArray) (ct : Nat) (cn : Bool) (sc : Int) (d : RV) (ty : Nat) (nl : Bool) (n : Int) (tx : ByteArray) (b : Bool) (hs : tx.size ≤ 9223372036854775807) (w : World) (hE : Env w) :
    Calls Tryz.prog 86 #[.agg #[.string nm, .int .u8 (ct : Int), .bool cn, .int .i64 sc, .int .u8 (d.ty : Int), .bool d.nl, .int .i64 d.n, .string d.tx, .bool d.b], .agg #[.int .u8 (ty : Int), .bool nl, .int .i64 n, .string tx, .bool b]] w
      (RPost w (.int .i64 (fitsP ct cn ⟨ty, nl, n, tx, b⟩ : Nat))) := by
  obtain ⟨W0, hW0⟩ : ∃ W, W = w.alloc (.cells #[.string nm, .int .u8 (ct : Int), .bool cn, .int .i64 sc, .int .u8 (d.ty : Int), .bool d.nl, .int .i64 d.n, .string d.tx, .bool d.b] 108) := ⟨_, rfl⟩
  obtain ⟨W, hW⟩ : ∃ W, W = W0.alloc (.cells #[.int .u8 (ty : Int), .bool nl, .int .i64 n, .string tx, .bool b] 28) := ⟨_, rfl⟩
  have hz0 : W0.heap.size = w.heap.size + 1 := by rw [hW0]; simp
  have hC : Has W w.heap.size [.string nm, .int .u8 (ct : Int), .bool cn, .int .i64 sc, .int .u8 (d.ty : Int), .bool d.nl, .int .i64 d.n, .string d.tx, .bool d.b] 108 := by
    rw [hW, hW0]; exact (Has.new w _ 108).alloc _
  have hV : Has W (w.heap.size + 1) [.int .u8 (ty : Int), .bool nl, .int .i64 n, .string tx, .bool b] 28 := by
    have := Has.new W0 [.int .u8 (ty : Int), .bool nl, .int .i64 n, .string tx, .bool b] 28
    rw [hz0] at this
    rw [hW]; exact this
  have hB : Below w.heap.size w W := by rw [hW, hW0]; exact ((Below.refl _ _).alloc (Nat.le_refl _) _).alloc (by simp) _
  have hEW := hE.below (hB.mono (Nat.le_refl _))
  obtain ⟨xn, hxn⟩ : ∃ x, x = nl := ⟨_, rfl⟩
  obtain ⟨xc, hxc⟩ : ∃ x, x = cn := ⟨_, rfl⟩
  obtain ⟨xb, hxb⟩ : ∃ x, x = b := ⟨_, rfl⟩
  obtain ⟨kn, hkn⟩ : ∃ k, k = knownB ct := ⟨_, rfl⟩
  have c1 := hC.cell (o := 1) rfl
  have c2 : W.cell? ⟨w.heap.size, 2, none⟩ = some (.bool xc) := by rw [hxc]; exact hC.cell (o := 2) rfl
  have v0 := hV.cell (o := 0) rfl
  have v1 : W.cell? ⟨w.heap.size + 1, 1, none⟩ = some (.bool xn) := by rw [hxn]; exact hV.cell (o := 1) rfl
  have v2 := hV.cell (o := 2) rfl
  have v3 := hV.cell (o := 3) rfl
  have v4 : W.cell? ⟨w.heap.size + 1, 4, none⟩ = some (.bool xb) := by rw [hxb]; exact hV.cell (o := 4) rfl
  have hfb := fits_bools ct cn ⟨ty, nl, n, tx, b⟩
  obtain ⟨b1, h1⟩ : ∃ x, x = f1B (knownB ct) ct cn ⟨ty, nl, n, tx, b⟩ := ⟨_, rfl⟩
  obtain ⟨b2, h2⟩ : ∃ x, x = f2B ⟨ty, nl, n, tx, b⟩ := ⟨_, rfl⟩
  obtain ⟨b3, h3⟩ : ∃ x, x = f3B ⟨ty, nl, n, tx, b⟩ := ⟨_, rfl⟩
  rw [← h1, ← h2, ← h3] at hfb
  rw [← hkn] at h1
  have hfin : ∀ (k : Nat) w', k = (if b1 = true then 16 else if b2 = true then 16 else if b3 = true then 16 else if 200 < tx.size then 9 else 0) → Below W.heap.size W w' →
      RPost w (.int .i64 (fitsP ct cn ⟨ty, nl, n, tx, b⟩ : Nat)) (.returned (.int .i64 (k : Int))) w' := by
    intro k w' hk hb
    rw [hk, hfb]
    exact ⟨rfl, hB.trans (hb.mono hB.size)⟩
  generalize RPost w (.int .i64 (fitsP ct cn ⟨ty, nl, n, tx, b⟩ : Nat)) = post at *
  unfold f1B at h1
  unfold f2B at h2
  unfold f3B at h3
  simp only at h1 h2 h3
  rw [← hxn, ← hxc] at h1
  rw [← hxn, ← hxb] at h2
  have hkn2 := fun w => known_any ct w
  rw [← hkn] at hkn2
  have hvs := fun w' (hb : Below W.heap.size W w') => validstr_any tx w' hs (hEW.below hb)
  obtain ⟨vd, hvd⟩ : ∃ x, validD tx.data.toList = x := ⟨_, rfl⟩
  rw [hvd] at h3 hvs
  clear hfb hC hV hB hE hEW hz0
  replace hW := Lib.hid hW
  replace hW0 := Lib.hid hW0
  replace hfin := Lib.hid hfin
  replace hxn := Lib.hid hxn
  replace hxc := Lib.hid hxc
  replace hxb := Lib.hid hxb
  replace hkn := Lib.hid hkn
  replace hvd := Lib.hid hvd
  replace h1 := Lib.hid h1
  replace h2 := Lib.hid h2
  replace h3 := Lib.hid h3
  replace hkn2 := Lib.hid hkn2
  replace hvs := Lib.hid hvs
  go_enter Tryz.func86, Tryz.ntmps86
  go_upto_region 1 with fail
  rw [← hW0.out, ← hW.out]
  go_cut [24] (fun p wx => p = .bool b1 ∧ W = wx)
  case first =>
    as_aux_lemma =>
    obtain ⟨x1, g1⟩ : ∃ x, ((ty : Int) != (ct : Int)) = x := ⟨_, rfl⟩
    go_wp2_with (go_at_call 101; refine (hkn2.out _).mono ?_; rintro e w' ⟨rfl, rfl⟩)
    all_goals (go_meet; exact ⟨congrArg Value.bool (by rw [h1.out, g1]; simp [*]), rfl⟩)
  case rest =>
    obtain ⟨rfl, rfl⟩ := hcut
    cases b1
    case true =>
      have hf := Lib.hid (hfin.out 16 W rfl (Below.refl _ _))
      clear hfin
      go_wp2_with fail
      exact hf.out
    case false =>
      go_upto_region 3 with fail
      go_cut [63] (fun p wx => p = .bool b2 ∧ W = wx)
      case first =>
        as_aux_lemma =>
        obtain ⟨x1, g1⟩ : ∃ x, ((ty : Int) != 1) = x := ⟨_, rfl⟩
        obtain ⟨x2, g2⟩ : ∃ x, ((ty : Int) != 2) = x := ⟨_, rfl⟩
        obtain ⟨x3, g3⟩ : ∃ x, ((ty : Int) != 3) = x := ⟨_, rfl⟩
        obtain ⟨x4, g4⟩ : ∃ x, (n != 0) = x := ⟨_, rfl⟩
        go_wp2_with fail
        all_goals (go_meet; exact ⟨congrArg Value.bool (by rw [h2.out, g1, g2, g3, g4, ← ByteArray.toList_eq]; simp [*]), rfl⟩)
      case rest =>
        obtain ⟨rfl, rfl⟩ := hcut
        cases b2
        case true =>
          have hf := Lib.hid (hfin.out 16 W rfl (Below.refl _ _))
          clear hfin
          go_wp2_with fail
          exact hf.out
        case false =>
          go_upto_region 5 with fail
          go_cut [77] (fun p wx => p = .bool b3 ∧ Below W.heap.size W wx)
          case first =>
            as_aux_lemma =>
            have hv0 := Lib.hid (hvs.out W (Below.refl _ _))
            go_wp2_with (go_at_call 102; refine hv0.out.mono ?_; rintro e w1 ⟨rfl, hb1⟩)
            all_goals (go_meet; exact ⟨congrArg Value.bool (by refine Eq.trans ?_ h3.out.symm; simp [*]), by first | assumption | exact Below.refl _ _⟩)
          case rest =>
            obtain ⟨rfl, hbw⟩ := hcut
            have u3 := cellk hbw v3
            cases b3
            case true =>
              have hf := Lib.hid (hfin.out 16 _ rfl hbw)
              clear hfin
              go_wp2_with fail
              exact hf.out
            case false =>
              by_cases hl : 200 < tx.size
              · have hf := Lib.hid (hfin.out 9 _ (by simp [hl]) hbw)
                have d1 : decide ((200 : Int) < (tx.size : Int)) = true := decide_eq_true (by omega)
                have d2 : decide (200 < tx.size) = true := decide_eq_true hl
                clear hfin
                go_wp2_with fail
                exact hf.out
              · have hf := Lib.hid (hfin.out 0 _ (by simp [hl]) hbw)
                have d1 : decide ((200 : Int) < (tx.size : Int)) = false := decide_eq_false (by omega)
                have d2 : decide (200 < tx.size) = false := decide_eq_false hl
                clear hfin
                go_wp2_with fail
                exact hf.out

/-- Fits, as a call at a value that a variable bears. -/
theorem fits_v (nm : ByteArray) (ct : Nat) (cn : Bool) (sc : Int) (d v : RV) (hs : v.tx.size ≤ 9223372036854775807) (w : World) (hE : Env w) :
    Calls Tryz.prog 86 #[.agg #[.string nm, .int .u8 (ct : Int), .bool cn, .int .i64 sc, .int .u8 (d.ty : Int), .bool d.nl, .int .i64 d.n, .string d.tx, .bool d.b], .agg #[.int .u8 (v.ty : Int), .bool v.nl, .int .i64 v.n, .string v.tx, .bool v.b]] w
      (RPost w (.int .i64 (fitsP ct cn v : Nat))) := fits_any nm ct cn sc d v.ty v.nl v.n v.tx v.b hs w hE
theorem fits_self (v : RV) : fitsP v.ty true v = formP v := by
  unfold fitsP
  rw [if_neg (by simp)]
set_option maxHeartbeats 1000000 in
theorem valid1_any (ty : Nat) (nl : Bool) (n : Int) (tx : ByteArray) (b : Bool) (hs : tx.size ≤ 9223372036854775807) (w : World) (hE : Env w) :
    Calls Tryz.prog 66 #[.agg #[.int .u8 (ty : Int), .bool nl, .int .i64 n, .string tx, .bool b]] w (RPost w (.bool (decide (formP ⟨ty, nl, n, tx, b⟩ = 0)))) := by
  have hH := Has.new w [.int .u8 (ty : Int), .bool nl, .int .i64 n, .string tx, .bool b] 28
  have hBx : Below w.heap.size w (w.alloc (.cells #[.int .u8 (ty : Int), .bool nl, .int .i64 n, .string tx, .bool b] 28)) := (Below.refl _ _).alloc (Nat.le_refl _) _
  have e0 := hH.cell (o := 0) rfl
  have e1 := hH.cell (o := 1) rfl
  have e2 := hH.cell (o := 2) rfl
  have e3 := hH.cell (o := 3) rfl
  have e4 := hH.cell (o := 4) rfl
  have hf := fits_any ByteArray.empty ty true 0 ⟨0, false, 0, ByteArray.empty, false⟩ ty nl n tx b hs _ (hE.below hBx)
  have hs2 := fits_self ⟨ty, nl, n, tx, b⟩
  simp only at hs2
  rw [hs2] at hf
  obtain ⟨k, hk⟩ : ∃ k, formP ⟨ty, nl, n, tx, b⟩ = k := ⟨_, rfl⟩
  rw [hk] at hf ⊢
  have d1 : ((k : Int) == 0) = decide (k = 0) := by rw [Bool.eq_iff_iff]; simp
  generalize decide (k = 0) = kz at *
  clear hs2 hH
  replace hk := Lib.hid hk
  replace hf := Lib.hid hf
  replace hBx := Lib.hid hBx
  go_enter Tryz.func66, Tryz.ntmps66
  go_wp2_with fail
  refine hf.out.mono ?_
  rintro e w1 ⟨rfl, hb⟩
  go_wp2_with fail
  go_ret
  exact ⟨rfl, hBx.out.trans (hb.mono hBx.out.size)⟩
end Go.Proofs.YtgnoikfmhncbmaaGreatDoor
