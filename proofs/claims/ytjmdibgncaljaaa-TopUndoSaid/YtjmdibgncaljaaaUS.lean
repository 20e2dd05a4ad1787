/- Walks: slices.Equal of words; the law's words. -/
import Derived.Test.YtjmdibgncaljaaaUR
namespace Go.Proofs.Ytjmdibgncaljaaa
open Go.RowKit Go.Lib Dev
variable {w : World} {F : Own} {T : Nat} {L : Lay} {R : Dv} {lb : Nat}
set_option maxHeartbeats 4000000 in
set_option maxRecDepth 100000 in
theorem equalU_any (xs ys : List Nat) (n : Nat) (hx : xs.length = n) (hy : ys.length = n) (hn : n ≤ 1000) (a b : Option Addr) (c d : Nat) (w : World) (hrx : Rd w (.slice a n c) n (u64s xs)) (hry : Rd w (.slice b n d) n (u64s ys)) :
    Calls Try.prog 30 #[.slice a n c, .slice b n d] w (RP w (.bool (decide (xs = ys)))) := by
  have hgx := getU64 hrx hx
  have hgy := getU64 hry hy
  generalize hpost : RP w (.bool (decide (xs = ys))) = post
  have hfinT : xs = ys → ∀ w', Below w.heap.size w w' → post (.returned (.bool true)) w' := fun h w' hb => by rw [← hpost, decide_eq_true h]; exact ⟨rfl, hb⟩
  have hfinF : xs ≠ ys → ∀ w', Below w.heap.size w w' → post (.returned (.bool false)) w' := fun h w' hb => by rw [← hpost, decide_eq_false h]; exact ⟨rfl, hb⟩
  have hb0 := Lib.hid (Below.refl w.heap.size w)
  replace hgx := Lib.hid hgx
  replace hgy := Lib.hid hgy
  replace hfinT := Lib.hid hfinT
  replace hfinF := Lib.hid hfinF
  replace hx := Lib.hid hx
  replace hy := Lib.hid hy
  clear hpost hrx hry
  go_enter Try.func30, Try.ntmps30
  go_wp2_with fail
  go_loopw [13] (fun s13 wr => ∃ (k : Nat), k ≤ n ∧ s13 = .int .i64 (k : Int) ∧ xs.take k = ys.take k ∧ Below w.heap.size w wr) (fun s13 _ => n - (RowKit.intOf s13).toNat)
  case atStart => exact ⟨0, by omega, rfl, rfl, hb0.out⟩
  case round =>
    clear hb0
    obtain ⟨k, hk, rfl, he, hB⟩ := hrel
    by_cases hlt : (k < n)
    · have kd : decide ((k : Int) < (n : Int)) = true := decide_eq_true (by omega)
      have k1 : (k : Int) < (n : Int) := by omega
      have k0 : (0 : Int) ≤ (k : Int) := by omega
      have kw := Lib.hid (show wrap64 ((k : Int) + 1) = ((k + 1 : Nat) : Int) from by unfold wrap64; omega)
      obtain ⟨b1, o1, x, rfl, gx, cx⟩ := hgx.out k hlt
      obtain ⟨b2, o2, y, rfl, gy, cy⟩ := hgy.out k hlt
      have c1 := cx wr hB
      have c2 := cy wr hB
      have hbd : ∀ q, Below w.heap.size w (wr.drewN q) := fun q => hB.trans ((below_drewN q).mono hB.size)
      by_cases hxy : x = y
      · have ne : (((x : Int)) != (y : Int)) = false := by rw [hxy]; simp
        have ht := Lib.hid (show xs.take (k + 1) = ys.take (k + 1) from by rw [List.take_add_one, List.take_add_one, gx, gy, he, hxy])
        replace hbd := Lib.hid hbd
        replace cx := Lib.hid cx
        replace cy := Lib.hid cy
        clear hB he gx gy
        go_upto_region 6 with fail
        go_quiet (fail)
        go_wp2_with fail
        first | rw [kw.out] | skip
        go_roundw
        case rel => exact ⟨k + 1, by omega, rfl, ht.out, hbd.out _⟩
        case measure => simp [RowKit.intOf]; try omega
      · have ne : (((x : Int)) != (y : Int)) = true := by simp; omega
        have hf := Lib.hid (fun q => hfinF.out (fun e => hxy (by rw [e, gy] at gx; exact (Option.some.inj gx).symm)) _ (hbd q))
        replace cx := Lib.hid cx
        replace cy := Lib.hid cy
        clear hB he gx gy hbd
        go_upto_region 6 with fail
        go_quiet (fail)
        go_wp2_with fail
        first | exact hf.out _ | (go_ret; exact hf.out _)
    · have kd : decide ((k : Int) < (n : Int)) = false := decide_eq_false (by omega)
      have kk1 : ¬ (k : Int) < (n : Int) := by omega
      have hkn : n = k := by omega
      subst hkn
      rw [List.take_of_length_le (Nat.le_of_eq hx.out), List.take_of_length_le (Nat.le_of_eq hy.out)] at he
      have hf := Lib.hid (hfinT.out he _ hB)
      clear hB he
      go_wp2_with fail
      first | exact hf.out | (go_ret; exact hf.out)
/-- The words after the log. -/
def wordsD (R : Dv) : List Nat := (List.range 56).map fun i => valueP R (8 * (24 + i))
theorem wordsD_len (R : Dv) : (wordsD R).length = 56 := by unfold wordsD; rw [List.length_map, List.length_range]
set_option maxHeartbeats 4000000 in
set_option maxRecDepth 100000 in
theorem uwords_any (h : DevSt w F 0 L T R) (hO : Ok10 R) (u : Value) : Calls Try.prog 23 #[u, .pointer (some ⟨L.g, 0, none⟩)] w (RowPost w 27 1 56 (u64s (wordsD R))) := by
  generalize hpost : RowPost w 27 1 56 (u64s (wordsD R)) = post
  have hfin : ∀ sa sc w', RowB w 27 1 56 (u64s (wordsD R)) sa sc w' → post (.returned (.slice sa 56 sc)) w' := fun sa sc w' h => by rw [← hpost]; exact ⟨sa, sc, rfl, h⟩
  have hld : ∀ wx, Below w.heap.size w wx → ∀ off : Nat, off % 8 = 0 → off < 640 → Calls Try.prog 63 #[.pointer (some ⟨L.tb 7, 0, none⟩), .int .u64 (off : Int)] wx (RS wx (.int .u64 ((valueP R off : Nat) : Int))) := by
    intro wx hb off h8 h6
    have h2 : DevSt wx F 0 L T R := h.below hb
    exact load_live (t := 7) h2 hO.lv (by decide) h8 (by rw [hO.len]; exact h6) (by rw [hO.len]; decide)
  have hth : ∀ wx, Below w.heap.size w wx → Calls Try.prog 21 #[.pointer (some ⟨L.g, 0, none⟩), .int .i64 7] wx (RS wx (.pointer (some ⟨L.tb 7, 0, none⟩))) := by
    intro wx hb
    have h2 : DevSt wx F 0 L T R := h.below hb
    exact thread_in h2 (t := 7) (by decide)
  have hst0 := Lib.hid (RowB.nil w 27 1)
  replace hfin := Lib.hid hfin
  replace hld := Lib.hid hld
  replace hth := Lib.hid hth
  clear hpost h hO
  go_enter Try.func23, Try.ntmps23
  go_wp2_with fail
  go_loopw [5, 6] (fun s5 s6 wr => ∃ (k : Nat) (oa : Option Addr) (oc : Nat), k ≤ 56 ∧ s6 = .int .u64 ((24 + k : Nat) : Int) ∧ s5 = .slice oa k oc ∧ RowB w 27 1 k (u64s ((wordsD R).take k)) oa oc wr) (fun _ s6 _ => 80 - (RowKit.intOf s6).toNat)
  case atStart => exact ⟨0, none, 0, by omega, rfl, rfl, hst0.out⟩
  case round =>
    clear hst0
    obtain ⟨k, oa, oc, hk, rfl, rfl, hP⟩ := hrel
    by_cases hlt : (k < 56)
    · have k1 : ((24 + k : Nat) : Int) < 80 := by omega
      have kd : decide (((24 + k : Nat) : Int) < 80) = true := decide_eq_true k1
      have kw := u64w (n := 24 + k + 1) (by omega)
      have k8 := u64w (n := 8 * (24 + k)) (by omega)
      have e1 : ((24 + k + 1 : Nat) : Int) = ((24 + k : Nat) : Int) + 1 := by omega
      have e8 : ((8 * (24 + k) : Nat) : Int) = 8 * ((24 + k : Nat) : Int) := by omega
      have h1 := hth.out wr hP.b
      have h2 := hld.out wr hP.b (8 * (24 + k)) (by omega) (by omega)
      rw [e1] at kw
      have htk : (wordsD R).take (k + 1) = (wordsD R).take k ++ [valueP R (8 * (24 + k))] := by
        have : (wordsD R)[k]? = some (valueP R (8 * (24 + k))) := by unfold wordsD; rw [List.getElem?_map, List.getElem?_range hlt]; rfl
        rw [List.take_add_one, this]; rfl
      obtain ⟨y, hy⟩ : ∃ y, valueP R (8 * (24 + k)) = y := ⟨_, rfl⟩
      rw [hy] at h2 htk
      rw [e8] at h2 k8
      obtain ⟨m, hm⟩ : ∃ m : Nat, 24 + k = m := ⟨_, rfl⟩
      rw [hm] at kw k8 k1 kd h2 ⊢
      obtain ⟨PS, hPS⟩ : ∃ PS, (wordsD R).take k = PS := ⟨_, rfl⟩
      rw [hPS] at hP htk
      have hb3 := (Below.refl wr.heap.size wr).alloc (Nat.le_refl _) (.cells #[.int .u64 (y : Int)] 27)
      have hP3 := hP.below hb3
      have hN3 := Has.new wr [.int .u64 (y : Int)] 27
      have ho3 := hP3.o
      have hby3 : (k + 1) * 8 ≤ 140737488355328 := by omega
      replace hP3 := Lib.hid hP3
      replace htk := Lib.hid htk
      replace h1 := Lib.hid h1
      replace h2 := Lib.hid h2
      replace hm := Lib.hid hm
      clear hP hb3 hy hPS e1 e8
      go_wp2_with fail
      refine h1.out.mono ?_
      rintro e w' ⟨rfl, rfl⟩
      go_wp2_with fail
      refine h2.out.mono ?_
      rintro e w' ⟨rfl, rfl⟩
      go_wp2_with (at_builtin; refine wpList_app rfl (.tmp 11) (.tmp 17) 70 rfl 27 (.int .u64 0) 1 8 Try.underlying70 infoU64 rfl (by decide) (by decide) oa k oc (u64s PS) (by exact ho3) rfl _ 1 1 [.int .u64 (y : Int)] rfl rfl (by exact newsIn hN3) (by simp [Value.oneCell']) (by exact hby3) ?_)
      intro oa' oc' w6 own6 only6 fresh6
      have hP6 : RowB w 27 1 (k + 1) (u64s ((wordsD R).take (k + 1))) oa' oc' w6 := by
        rw [htk.out, show u64s (PS ++ [y]) = u64s PS ++ [.int .u64 (y : Int)] from by unfold u64s; rw [List.map_append]; rfl]
        exact hP3.out.app own6 only6 (fun j hj => by have := fresh6 j hj; simpa using this)
      replace hP6 := Lib.hid hP6
      clear own6 only6 fresh6 ho3 hN3
      go_wp2_with fail
      go_roundw
      case rel => exact ⟨k + 1, oa', oc', by omega, by rw [show 24 + (k + 1) = m + 1 from by have := hm.out; omega]; first | rfl | simp, rfl, hP6.out⟩
      case measure => have := hm.out; simp [RowKit.intOf]; omega
    · have hk56 : k = 56 := by omega
      subst hk56
      rw [List.take_of_length_le (Nat.le_of_eq (wordsD_len R))] at hP
      have hf := Lib.hid (hfin.out _ _ _ hP)
      clear hP
      go_wp2_with fail
      first | exact hf.out | (go_ret; exact hf.out)
end Go.Proofs.Ytjmdibgncaljaaa
