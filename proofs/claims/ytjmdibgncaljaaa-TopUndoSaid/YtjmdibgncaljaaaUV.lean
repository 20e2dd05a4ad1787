/- Walks: the law's all. -/
import Derived.Test.YtjmdibgncaljaaaUT
import Derived.IntWalk
namespace Go.Proofs.Ytjmdibgncaljaaa
open Go.RowKit Dev
attribute [local go_sem] Oper.semAt_some
variable {w : World} {F : Dev.Own} {T : Nat} {L : Lay} {R : Dv} {lb : Nat}
set_option maxHeartbeats 8000000 in
set_option maxRecDepth 100000 in
theorem uall_any (h : DevSt w F 0 L T R) (ol nl : List Nat) (hol : ol.length = 56) (hnl : nl.length = 56) (b a : Bool) (hA : AllOk R ol nl b a) {ub : Nat} {lv : Value} {oa na : Option Addr} {oc nc : Nat}
    (hU : Has w ub [.pointer (some ⟨L.g, 0, none⟩), lv, .slice oa 56 oc, .slice na 56 nc] 72) (hro : Rd w (.slice oa 56 oc) 56 (u64s ol)) (hrn : Rd w (.slice na 56 nc) 56 (u64s nl)) :
    Calls Try.prog 28 #[.pointer (some ⟨ub, 0, none⟩), .bool b, .bool a] w (RP w (.bool true)) := by
  generalize hpost : RP w (.bool true) = post
  replace hpost := Lib.hid hpost
  obtain ⟨W0, hW0⟩ : ∃ W0, W0 = (((w.alloc (.cells #[.pointer (some ⟨ub, 0, none⟩)] 69)).alloc (.cells #[.bool b] 4)).alloc (.cells #[.bool a] 4)).alloc (.cells #[.bool false] 4) := ⟨_, rfl⟩
  have hb0 : Below w.heap.size w W0 := by
    rw [hW0]
    have h1 := (Below.refl w.heap.size w).alloc (Nat.le_refl _) (.cells #[.pointer (some ⟨ub, 0, none⟩)] 69)
    have h2 := h1.alloc h1.size (.cells #[.bool b] 4)
    have h3 := h2.alloc h2.size (.cells #[.bool a] 4)
    exact h3.alloc h3.size _
  have hs0 : W0.heap.size = w.heap.size + 4 := by rw [hW0]; simp
  have hX0 : Has W0 w.heap.size [.pointer (some ⟨ub, 0, none⟩)] 69 := by rw [hW0]; exact (((Has.new w [.pointer (some ⟨ub, 0, none⟩)] 69).alloc _).alloc _).alloc _
  have hX1 : Has W0 (w.heap.size + 1) [.bool b] 4 := by
    have h1 := Has.new (w.alloc (.cells #[.pointer (some ⟨ub, 0, none⟩)] 69)) [.bool b] 4
    rw [World.size_alloc] at h1
    rw [hW0]; exact (h1.alloc _).alloc _
  have hX2 : Has W0 (w.heap.size + 1 + 1) [.bool a] 4 := by
    have h1 := Has.new ((w.alloc (.cells #[.pointer (some ⟨ub, 0, none⟩)] 69)).alloc (.cells #[.bool b] 4)) [.bool a] 4
    simp only [World.size_alloc] at h1
    rw [hW0]; exact h1.alloc _
  have hX3 : Has W0 (w.heap.size + 1 + 1 + 1) [.bool false] 4 := by
    have h1 := Has.new (((w.alloc (.cells #[.pointer (some ⟨ub, 0, none⟩)] 69)).alloc (.cells #[.bool b] 4)).alloc (.cells #[.bool a] 4)) [.bool false] 4
    simp only [World.size_alloc] at h1
    rw [hW0]; exact h1
  have hU0 := Has.only hU (Only.of_below hb0) (Nat.not_le.2 hU.lt)
  have hD0 : DevSt W0 F 0 L T R := h.below hb0
  replace hW0 := Lib.hid hW0.symm
  replace hb0 := Lib.hid hb0
  have x0 := hX0.cell (o := 0) rfl
  have u0 := hU0.cell (o := 0) rfl
  replace hD0 := Lib.hid hD0
  replace hX0 := Lib.hid hX0
  replace hX1 := Lib.hid hX1
  replace hX2 := Lib.hid hX2
  replace hX3 := Lib.hid hX3
  replace hs0 := Lib.hid hs0
  refine calls_of_marks Try.func28 rfl ?_
  simp only [Try.ntmps28, List.size_toArray, List.length_cons, List.length_nil, Nat.reduceAdd, Nat.reduceSub, Array.replicate_succ, Array.replicate_zero, List.push_toArray, List.append_toArray, List.nil_append, List.cons_append]
  go_upto_region 1 with fail
  rw [hW0.out]
  go_wp2_with fail
  refine (call_CAll _ _ _).mono ?_
  rintro e w1 ⟨rfl, hB1, hg1, hg2⟩
  have hz1 := World.block_lt_of_cell? _ _ hg2
  simp only at hz1
  have hD1 := hD0.out.below hB1
  have hseq : ∀ Wx, Below w1.heap.size w1 Wx → SeqOwn Fence.wide 2 Try.prog 58 #[.pointer (some ⟨W0.heap.size, 0, none⟩), .pointer (some ⟨W0.heap.size + 1, 0, none⟩)] (fun x : Nat => #[.agg #[.string (strOf (atB R x))]]) (fun k => k = W0.heap.size + 1)
      (fun _ pre x _ => x = pre.length ∧ restR R (dirtyL R) x = 0) (fun xs => xs.length = min (48 : Int).toNat (prodL R (dirtyL R))) (fun _ => True) (48 : Int).toNat Wx := fun Wx hb =>
    all_own 2 _ _ 48 Wx (by omega) (hD1.below hb) ((hb.cell (World.block_lt_of_cell? _ _ hg1)).trans hg1) ((hb.cell (World.block_lt_of_cell? _ _ hg2)).trans hg2)
  have hs1 := hB1.size
  have hok : R.Ok T := h.ok
  have hwim : ∀ x : Nat, (crashW R (kOf R (digR R (dirtyL R) x))).length = 80 ∧ (∀ y ∈ crashW R (kOf R (digR R (dirtyL R) x)), y < 18446744073709551616) := fun x => ⟨by rw [crashW_len hok, hA.o.len], crashW_lt hok _⟩
  have hbr1 := hb0.out.trans (hB1.mono hb0.out.size)
  -- what the body reads, in any world that keeps the blocks up to W0's
  have hrd : ∀ wx, Below W0.heap.size W0 wx → Has wx w.heap.size [.pointer (some ⟨ub, 0, none⟩)] 69 ∧ Has wx (w.heap.size + 1) [.bool b] 4 ∧ Has wx (w.heap.size + 1 + 1) [.bool a] 4 ∧ Has wx (w.heap.size + 1 + 1 + 1) [.bool false] 4 ∧
      Has wx ub [.pointer (some ⟨L.g, 0, none⟩), lv, .slice oa 56 oc, .slice na 56 nc] 72 ∧ Rd wx (.slice oa 56 oc) 56 (u64s ol) ∧ Rd wx (.slice na 56 nc) 56 (u64s nl) := fun wx hb => by
    have hk : ∀ {bl : Nat} {cs : List Value} {t : TypeId}, Has W0 bl cs t → Has wx bl cs t := fun h => Has.only h (Only.of_below hb) (Nat.not_le.2 h.lt)
    have hb2 := hb0.out.trans (hb.mono hb0.out.size)
    exact ⟨hk hX0.out, hk hX1.out, hk hX2.out, hk hX3.out, hk hU0, hro.kept hb2, hrn.kept hb2⟩
  replace hseq := Lib.hid hseq
  replace hwim := Lib.hid hwim
  replace hrd := Lib.hid hrd
  replace hbr1 := Lib.hid hbr1
  replace hA := Lib.hid hA
  replace hB1 := Lib.hid hB1
  clear hg1 hg2 hD1 hU hro hrn h x0 u0 hU0 hD0 hX0 hX1 hX2 hW0 hok
  go_wp2_with fail
  refine wp_rangeFunc_rollB (α := Nat) (q := 7) (gf := 58) (lb := #[.pointer (some ⟨W0.heap.size, 0, none⟩), .pointer (some ⟨W0.heap.size + 1, 0, none⟩)]) rfl (enters_of Try.func58 (by kernel_rfl) rfl) (enc := fun x => .agg #[.string (strOf (atB R x))]) (r := fun k => k = W0.heap.size + 1) (Giv := fun _ pre x _ => x = pre.length ∧ restR R (dirtyL R) x = 0)
    (S := fun xs => xs.length = min (48 : Int).toNat (prodL R (dirtyL R))) (Sp := fun _ => True) (N := (48 : Int).toNat) hseq.out (fun k hk => by omega) (fun _ _ _ _ _ _ _ _ _ _ h => h)
    (fun c pre A2 => Below W0.heap.size w1 A2)
    (fun c j pre A2 => False) ?hI2 ?hIx2 (fun c _ => Below.refl _ _) (fun x => [.string (strOf (atB R x))]) 53 (fun _ _ _ _ _ h => h) ?assign2 ?body2 ?done2 ?stop2
  case hI2 =>
    rintro c pre A2 E hc q3 hr
    exact hr.below hc (by omega) q3 (by omega)
  case hIx2 =>
    intro c j pre A2 E hc h
    exact h.elim
  case assign2 =>
    intro l x A2 K hK
    gi_wp2
    exact hK
  case stop2 =>
    rintro D2 c j pre A2 hD2 hc _ h hK2
    exact h.elim
  case body2 =>
    rintro l c pre x bx A2 hc hb hbx q3 ⟨rfl, hrz⟩ hlen
    obtain ⟨hw80, hwlt⟩ := hwim.out pre.length
    have hArr := hA.out.r pre.length
    have hatb : atB R pre.length = bytesL (crashW R (kOf R (digR R (dirtyL R) pre.length))) := rfl
    rw [hatb] at hbx ⊢
    clear hatb
    generalize crashW R (kOf R (digR R (dirtyL R) pre.length)) = ws at *
    have hbrA : Below W0.heap.size W0 A2 := hB1.out.trans (q3.mono (Nat.le_refl _))
    have hrdA := fun wx (hx : Below A2.heap.size A2 wx) => hrd.out wx (hbrA.trans (hx.mono hbrA.size))
    have hkeep : ∀ wz, Below A2.heap.size A2 wz → KeepsFrom w1.heap.size A2 wz ∧ KeepB (fun k => c k ∨ k = W0.heap.size + 1) A2 wz ∧ Below W0.heap.size w1 wz :=
      fun wz hx => ⟨⟨hx.size, fun k o _ hk _ => (hx.block k (Array.getElem?_eq_some_iff.1 hk).1).trans hk⟩, KeepB.of_below hx (Nat.le_refl _), q3.trans (hx.mono (by have := q3.size; omega))⟩
    have hdev := di_dev A2 ws hw80 hwlt
    have cb := hbx.cell (o := 0) rfl
    replace hdev := Lib.hid hdev
    replace hrdA := Lib.hid hrdA
    replace hkeep := Lib.hid hkeep
    replace hArr := Lib.hid hArr
    replace hw80 := Lib.hid hw80
    replace hwlt := Lib.hid hwlt
    replace hrz := Lib.hid hrz
    clear hbx q3 hseq hbrA
    gi_wp2_with fail
    refine ⟨trivial, ?_⟩
    refine (CallsIn.inRound l (callsIn_wide.2 hdev.out)).mono ?_
    rintro e w2 ⟨L1, F1, rfl, hI⟩
    have hth := thread_in hI.d (t := 0) (by decide)
    have hop := di_open hI (by rw [fromP_len])
    replace hth := Lib.hid hth
    replace hop := Lib.hid hop
    clear hI hdev cb
    gi_wp2_with fail
    refine ⟨trivial, ?_⟩
    refine (CallsIn.inRound l (callsIn_wide.2 hth.out)).mono ?_
    rintro e w3 ⟨rfl, rfl⟩
    gi_wp2_with fail
    refine ⟨trivial, ?_⟩
    refine (CallsIn.inRound l (callsIn_wide.2 hop.out)).mono ?_
    rintro e w4 ⟨F2, lb2, rfl, hI, hlg, hF2⟩
    have hrc := di_rec hI (by decide) (fromP_clean hw80.out).k hlg hF2 (fun p hp => by
      rw [fromP_saved hw80.out] at hp
      refine ⟨(hArr.out []).1 p hp, ?_⟩
      unfold savedX at hp
      obtain ⟨i, _, rfl⟩ := List.mem_map.1 hp
      show ws.getD (9 + 2 * i) 0 < 18446744073709551616
      rcases Nat.lt_or_ge (9 + 2 * i) ws.length with g | g
      · rw [List.getD, List.getElem?_eq_getElem g]; exact hwlt.out _ (List.getElem_mem g)
      · rw [List.getD, List.getElem?_eq_none g]; exact (by decide : (0 : Nat) < 18446744073709551616))
    rw [fromP_saved hw80.out] at hrc
    replace hrc := Lib.hid hrc
    clear hI hop hth
    gi_wp2_with fail
    refine ⟨trivial, ?_⟩
    refine (CallsIn.inRound l (callsIn_wide.2 hrc.out)).mono ?_
    rintro e w5 ⟨F3, T3, fl, m, rfl, hI, hlg5, hfl⟩
    obtain ⟨r1, r2, _⟩ := rec_image hw80.out (hArr.out fl).1 hfl
    have hor := (hArr.out fl).2 hfl
    generalize recD (fromP 10 ws) fl = R3 at *
    have hsv := usaved_any hI.d r1.k.lv r1.k.len hlg5
    rw [r2, List.length_nil] at hsv
    replace hI := Lib.hid hI
    replace hsv := Lib.hid hsv
    replace hor := Lib.hid hor
    replace r1 := Lib.hid r1
    clear hrc hlg r2 hlg5 hfl
    gi_wp2_with fail
    refine ⟨trivial, ?_⟩
    refine (CallsIn.inRound l (callsIn_wide.2 hsv.out)).mono ?_
    rintro e w6 ⟨sa, sc, rfl, hB6⟩
    have hI6 := hI.out.below hB6.b
    have hdi := dirty_any hI6.d
    unfold NewNats at hdi
    rw [r1.out.dirty, List.length_nil] at hdi
    replace hI6 := Lib.hid hI6
    replace hdi := Lib.hid hdi
    clear hB6 hsv hI
    gi_wp2_with fail
    refine ⟨trivial, ?_⟩
    refine (CallsIn.inRound l (callsIn_wide.2 hdi.out)).mono ?_
    rintro e w7 ⟨da, dc, rfl, _, hB7, _⟩
    have hI7 := hI6.out.below hB7
    have hwd := uwords_any hI7.d r1.out.k (.pointer (some ⟨ub, 0, none⟩))
    have hwl := wordsD_len R3
    generalize wordsD R3 = WD at *
    have y0 := (hrdA.out w7 hI7.b).1.cell (o := 0) rfl
    have hb7 := Lib.hid hI7.b
    replace hwd := Lib.hid hwd
    replace hwl := Lib.hid hwl
    clear hI7 hI6 hdi hB7 r1
    gi_wp2_with fail
    refine ⟨trivial, ?_⟩
    refine (CallsIn.inRound l (callsIn_wide.2 hwd.out)).mono ?_
    rintro e w8 ⟨va, vc, rfl, hR8⟩
    have hb8 := hb7.out.trans (hR8.b.mono hb7.out.size)
    have hrow := hR8.rd
    obtain ⟨k0, k1, k2, k3, ku, ko, kn⟩ := hrdA.out w8 hb8
    have heo := equalU_any WD ol 56 hwl.out hol (by decide) va oa vc oc w8 hrow ko
    have y0 := k0.cell (o := 0) rfl
    have y1 := k1.cell (o := 0) rfl
    have y2 := k2.cell (o := 0) rfl
    have u2 := ku.cell (o := 2) rfl
    have u3 := ku.cell (o := 3) rfl
    have hen : ∀ wx, Below w8.heap.size w8 wx → Calls Try.prog 30 #[.slice va 56 vc, .slice na 56 nc] wx (RP wx (.bool (decide (WD = nl)))) ∧ wx.cell? ⟨w.heap.size, 0, none⟩ = some (.pointer (some ⟨ub, 0, none⟩)) ∧ wx.cell? ⟨w.heap.size + 1 + 1, 0, none⟩ = some (.bool a) ∧
        wx.cell? ⟨ub, 3, none⟩ = some (.slice na 56 nc) ∧ Below A2.heap.size A2 wx := fun wx hx =>
      have hb := hb8.trans (hx.mono hb8.size)
      have hq := hrdA.out wx hb
      ⟨equalU_any WD nl 56 hwl.out hnl (by decide) va na vc nc wx (hrow.kept hx) hq.2.2.2.2.2.2, hq.1.cell (o := 0) rfl, hq.2.2.1.cell (o := 0) rfl, hq.2.2.2.2.1.cell (o := 3) rfl, hb⟩
    have hend := Lib.hid (fun wz hx => hkeep.out wz hx)
    replace hb8 := Lib.hid hb8
    replace hen := Lib.hid hen
    clear hR8 hwd k0 k1 k2 k3 ku ko kn hrow hrdA hkeep
    cases b with
    | false =>
      have hor2 := hor.out.resolve_left (fun h => by cases h.1)
      obtain ⟨rfl, h2⟩ := hor2
      obtain ⟨g1, _, _, _, _⟩ := hen.out w8 (Below.refl _ _)
      rw [decide_eq_true h2] at g1
      replace g1 := Lib.hid g1
      clear heo hor
      gi_wp2_with fail
      refine ⟨trivial, ?_⟩
      gi_wp2_with fail
      refine ⟨trivial, ?_⟩
      refine (CallsIn.inRound l (callsIn_wide.2 g1.out)).mono ?_
      rintro e w9 ⟨rfl, hB9⟩
      have hf := Lib.hid (hend.out w9 (hb8.out.trans (hB9.mono hb8.out.size)))
      clear hB9
      gi_wp2_with fail
      exact hf.out
    | true =>
      by_cases he : WD = ol
      · rw [decide_eq_true he] at heo
        replace heo := Lib.hid heo
        clear hor
        gi_wp2_with fail
        refine ⟨trivial, ?_⟩
        refine (CallsIn.inRound l (callsIn_wide.2 heo.out)).mono ?_
        rintro e w9 ⟨rfl, hB9⟩
        have hf := Lib.hid (hend.out w9 (hb8.out.trans (hB9.mono hb8.out.size)))
        clear hB9
        gi_wp2_with fail
        all_goals first | (exfalso; rename_i h1 _; cases h1; done) | (refine ⟨trivial, ?_⟩; gi_wp2_with fail; exact hf.out)
      · have hor2 := hor.out.resolve_left (fun h => he h.2)
        obtain ⟨rfl, h2⟩ := hor2
        rw [decide_eq_false he] at heo
        replace heo := Lib.hid heo
        clear hor he
        gi_wp2_with fail
        refine ⟨trivial, ?_⟩
        refine (CallsIn.inRound l (callsIn_wide.2 heo.out)).mono ?_
        rintro e w9 ⟨rfl, hB9⟩
        obtain ⟨g1, z0, z2, z3, hb9⟩ := hen.out w9 hB9
        rw [decide_eq_true h2] at g1
        replace g1 := Lib.hid g1
        replace hb9 := Lib.hid hb9
        clear hB9 heo y0 y1 y2 u2 u3
        gi_wp2_with fail
        refine ⟨trivial, ?_⟩
        refine (CallsIn.inRound l (callsIn_wide.2 g1.out)).mono ?_
        rintro e w10 ⟨rfl, hB10⟩
        have hf := Lib.hid (hend.out w10 (hb9.out.trans (hB10.mono hb9.out.size)))
        clear hB10
        gi_wp2_with fail
        exact hf.out
  case done2 =>
    rintro D2 c xs2 A2 hD2 hc hS2 q3 hK2
    have hBW : Below W0.heap.size W0 A2 := hB1.out.trans (q3.mono (Nat.le_refl _))
    have hRtA := hX3.out.only (Only.of_below hBW) (Nat.not_le.2 hX3.out.lt)
    have fRA := hRtA.free 0
    have cRA := hRtA.cell (o := 0) rfl
    have hR7 := hRtA.set 0 (.bool true)
    have hlW := hX3.out.lt
    have hne82 : D2 ≠ w.heap.size + 1 + 1 + 1 := by omega
    have hK6 : (A2.setCell ⟨w.heap.size + 1 + 1 + 1, 0, none⟩ (.bool true)).heap[D2]? = some (.deferred (some [])) := by
      rw [heap_setCell_ne (by show D2 ≠ w.heap.size + 1 + 1 + 1; exact hne82)]; exact hK2
    have hB6 : Below w.heap.size w (A2.setCell ⟨w.heap.size + 1 + 1 + 1, 0, none⟩ (.bool true)) := (hb0.out.trans (hBW.mono hb0.out.size)).setCell (p := ⟨w.heap.size + 1 + 1 + 1, 0, none⟩) (by show w.heap.size ≤ w.heap.size + 1 + 1 + 1; omega) _
    have hP1 := Roll.putObj (D := w1.heap.size) (c := fun _ => False) (.deferred none) hD2 hK6 rfl
    have cR8 := hP1.cell (p := ⟨w.heap.size + 1 + 1 + 1, 0, none⟩) (fun h => h) (hR7.cell (o := 0) rfl)
    have hB7 := hP1.below (fun _ h => h.elim) (by omega) hB6 (Nat.le_refl _)
    replace hK6 := Lib.hid hK6
    replace cR8 := Lib.hid cR8
    replace hB7 := Lib.hid hB7
    replace hS2 := Lib.hid hS2
    clear hP1 hR7 hB6 hK2 hBW hRtA
    go_wp2_with fail
    refine ⟨by simp, .inl ⟨_, _, rfl, run_takeDeferred hK6.out, ?_⟩⟩
    refine ⟨.bool true, by simp [results, Try.results28, go_sem, cR8.out], ?_⟩
    rw [← hpost.out]
    exact ⟨rfl, hB7.out⟩
end Go.Proofs.Ytjmdibgncaljaaa
