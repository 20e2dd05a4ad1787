/- Walks: Compact of words: which words there are stays. -/
import Derived.Test.YtjmdibgncaljaaaUE
import Derived.Lib.SliceRun
import Derived.Deep.LoopGhost
namespace Go.Proofs.Ytjmdibgncaljaaa
open Go.RowKit Dev Go.BigFrame
theorem set_from : ∀ (new pre cs : List Value) (w : World) (b : Nat) (T : TypeId), Has w b (pre ++ cs) T → new.length = cs.length → Has (w.setCells b pre.length new) b (pre ++ new) T
  | [], pre, cs, w, b, T, h, hl => by
    have : cs = [] := by cases cs with | nil => rfl | cons c cs => simp at hl
    subst this
    exact h
  | v :: new, pre, cs, w, b, T, h, hl => by
    cases cs with
    | nil => simp at hl
    | cons c cs =>
      have h1 := h.set pre.length v
      have e : (pre ++ c :: cs).set pre.length v = (pre ++ [v]) ++ cs := by simp
      rw [e] at h1
      have h2 := set_from new (pre ++ [v]) cs _ b T h1 (by simpa using hl)
      have e2 : (pre ++ [v]).length = pre.length + 1 := by simp
      rw [e2, List.append_assoc] at h2
      exact h2
theorem set_only : ∀ (new : List Value) (o b : Nat) (w : World), Only (fun k => k = b) w (w.setCells b o new)
  | [], o, b, w => Only.refl _ _
  | v :: new, o, b, w => ((Only.refl (fun k => k = b) w).setCell (a := ⟨b, o, none⟩) (fun _ => rfl) v).trans (set_only new (o + 1) b _)
structure CInv (ys : List Nat) (m kk : Nat) (zs : List Nat) : Prop where
  lt : kk < m
  l : zs.length = ys.length
  high : ∀ i, kk ≤ i → zs[i]? = ys[i]?
  m : ∀ y, y ∈ zs.take kk ↔ y ∈ ys.take m
theorem CInv.skip {ys zs : List Nat} {m kk u : Nat} (h : CInv ys m kk zs) (h1 : ys[m]? = some u) (h0 : ys[m - 1]? = some u) : CInv ys (m + 1) kk zs := by
  refine ⟨Nat.lt_succ_of_lt h.lt, h.l, h.high, fun y => ?_⟩
  have hlt := h.lt
  rw [h.m y, List.take_add_one, h1]
  simp only [Option.toList_some, List.mem_append, List.mem_singleton]
  constructor
  · exact .inl
  · rintro (h2 | rfl)
    · exact h2
    · refine List.mem_of_getElem? (i := m - 1) ?_
      rw [List.getElem?_take_of_lt (by omega)]; exact h0
theorem CInv.keep {ys zs : List Nat} {m kk u : Nat} (h : CInv ys m kk zs) (h1 : ys[m]? = some u) : CInv ys (m + 1) (kk + 1) (zs.set kk u) := by
  have hlt := h.lt
  have hm : m < ys.length := by
    rcases Nat.lt_or_ge m ys.length with g | g
    · exact g
    · rw [List.getElem?_eq_none g] at h1; cases h1
  have hl := h.l
  refine ⟨by omega, by rw [List.length_set]; exact h.l, fun i hi => ?_, fun y => ?_⟩
  · rw [List.getElem?_set_ne (by omega)]; exact h.high i (by omega)
  · rw [List.take_add_one, List.getElem?_set_self (by omega), List.take_set_of_le (Nat.le_refl _), List.take_add_one, h1]
    simp only [Option.toList_some, List.mem_append, h.m y]
def CmpP (w : World) (blk cap : Nat) (ys : List Nat) (e : Ending) (w' : World) : Prop := ∃ zs : List Nat, e = .returned (.slice (some ⟨blk, 0, none⟩) zs.length cap) ∧ (∀ y, y ∈ zs ↔ y ∈ ys) ∧ zs.length ≤ ys.length ∧ Rd w' (.slice (some ⟨blk, 0, none⟩) zs.length cap) zs.length (u64s zs) ∧ Only (fun k => k = blk) w w'
theorem rd_take {w : World} {blk cap : Nat} {zs : List Nat} {rest : List Value} (h : Has w blk (u64s zs ++ rest) 27) : Rd w (.slice (some ⟨blk, 0, none⟩) zs.length cap) zs.length (u64s zs) := by
  refine ⟨_, _, rfl, .inr ⟨blk, 0, rfl, fun j u hj => ?_⟩⟩
  rw [Nat.zero_add]
  refine h.cell ?_
  rw [List.getElem?_append_left]
  · exact hj
  · rcases Nat.lt_or_ge j (u64s zs).length with g | g
    · exact g
    · rw [List.getElem?_eq_none g] at hj; cases hj
set_option maxHeartbeats 4000000 in
set_option maxRecDepth 100000 in
theorem ucompact_any (blk cap : Nat) (ys : List Nat) (hl : ys.length ≤ 1000) (hc : ys.length ≤ cap) (w : World) (hH : Has w blk (u64s ys) 27) :
    Calls Try.prog 100 #[.slice (some ⟨blk, 0, none⟩) ys.length cap] w (CmpP w blk cap ys) := by
  generalize hpost : CmpP w blk cap ys = post
  have hfin : ∀ (zs : List Nat) (m : Nat) (rest : List Value) w', zs.length = m → (∀ y, y ∈ zs ↔ y ∈ ys) → m ≤ ys.length → Has w' blk (u64s zs ++ rest) 27 → Only (fun k => k = blk) w w' → post (.returned (.slice (some ⟨blk, 0, none⟩) m cap)) w' := fun zs m rest w' h1 h2 h3 h4 h5 => by
    subst h1
    rw [← hpost]; exact ⟨zs, rfl, h2, h3, rd_take h4, h5⟩
  clear hpost
  have hget : ∀ i, i < ys.length → ys[i]? = some (ys.getD i 0) := fun i hi => get_of_lt 0 hi
  obtain ⟨n, hn⟩ : ∃ n, ys.length = n := ⟨_, rfl⟩
  rw [hn] at hl hc hfin hget ⊢
  have hst0 := Lib.hid (show Has w blk (u64s ys) 27 ∧ Only (fun k => k = blk) w w from ⟨hH, .refl _ _⟩)
  clear hH
  replace hfin := Lib.hid hfin
  replace hn := Lib.hid hn
  replace hget := Lib.hid hget
  by_cases h2 : n < 2
  · have hf := Lib.hid (hfin.out ys n [] w hn.out (fun _ => Iff.rfl) (Nat.le_refl _) (by rw [List.append_nil]; exact hst0.out.1) hst0.out.2)
    clear hst0
    go_enter Try.func100, Try.ntmps100
    go_wp2_with fail
    first | exact hf.out | (go_ret; exact hf.out)
  · go_enter Try.func100, Try.ntmps100
    go_wp2_with fail
    go_loopw [3] (fun s3 wr => ∃ k : Nat, 1 ≤ k ∧ k ≤ n ∧ s3 = .int .i64 (k : Int) ∧ Has wr blk (u64s ys) 27 ∧ Only (fun k => k = blk) w wr) (fun s3 _ => n - (RowKit.intOf s3).toNat)
    case atStart => exact ⟨1, by omega, by omega, rfl, hst0.out⟩
    case round =>
      clear hst0
      obtain ⟨k, hk1, hk, rfl, hB, hO⟩ := hrel
      by_cases hlt : ¬ (k < n)
      · have hkn : k = n := by omega
        subst hkn
        have hf := Lib.hid (hfin.out ys k [] wr hn.out (fun _ => Iff.rfl) (Nat.le_refl _) (by rw [List.append_nil]; exact hB) hO)
        have kd : decide ((k : Int) < (k : Int)) = false := decide_eq_false (by omega)
        have k1 : ¬ (k : Int) < (k : Int) := by omega
        clear hB hO
        go_wp2_with fail
        first | exact hf.out | (go_ret; exact hf.out)
      · replace hlt := Classical.not_not.1 hlt
        obtain ⟨p, rfl⟩ : ∃ p, k = p + 1 := ⟨k - 1, by omega⟩
        have kd : decide (((p + 1 : Nat) : Int) < (n : Int)) = true := decide_eq_true (by omega)
        have k1 : ((p + 1 : Nat) : Int) < (n : Int) := by omega
        have kw := Lib.hid (show wrap64 (((p + 1 : Nat) : Int) + 1) = ((p + 1 + 1 : Nat) : Int) from by unfold wrap64; omega)
        have e1 := hget.out (p + 1) hlt
        have e0 := hget.out p (by omega)
        obtain ⟨x, hx⟩ : ∃ x, ys.getD (p + 1) 0 = x := ⟨_, rfl⟩
        obtain ⟨y, hy⟩ : ∃ y, ys.getD p 0 = y := ⟨_, rfl⟩
        rw [hx] at e1
        rw [hy] at e0
        have c1 := hB.cell (o := p + 1) (u64s_get _ _ _ e1)
        have c0 := hB.cell (o := p) (u64s_get _ _ _ e0)
        have pw : wrap64 (((p + 1 : Nat) : Int) - 1) = (p : Int) := by unfold wrap64; omega
        replace pw := Lib.hid pw
        have hst1 := Lib.hid (show Has wr blk (u64s ys) 27 ∧ Only (fun k => k = blk) w wr from ⟨hB, hO⟩)
        clear hB hO hx hy
        replace e1 := Lib.hid e1
        replace e0 := Lib.hid e0
        by_cases hxy : x = y
        · subst hxy
          have exx : ((x : Int) == (x : Int)) = true := by simp
          go_upto_region 6 with fail
          go_region
          have hst2 := Lib.hid (show CInv ys (p + 1 + 1) (p + 1) ys ∧ Has wr.drew blk (u64s ys) 27 ∧ Only (fun k => k = blk) w wr.drew from
            ⟨⟨by omega, rfl, fun _ _ => rfl, fun y => by
              have h0 : CInv ys (p + 1 + 1) (p + 1) ys → (y ∈ ys.take (p + 1) ↔ y ∈ ys.take (p + 1 + 1)) := fun h => h.m y
              rw [List.take_add_one (i := p + 1), e1.out]
              simp only [Option.toList_some, List.mem_append, List.mem_singleton]
              constructor
              · exact .inl
              · rintro (h2 | rfl)
                · exact h2
                · refine List.mem_of_getElem? (i := p) ?_
                  rw [List.getElem?_take_of_lt (by omega)]; exact e0.out⟩, hst1.out.1.drew, hst1.out.2.drew⟩)
          clear c1 c0 hst1
          go_wp2_with fail
          go_loopw [3, 5] (fun s3 s5 wr => ∃ (kk k2 : Nat) (zs : List Nat), s3 = .int .i64 (kk : Int) ∧ s5 = .int .i64 (k2 : Int) ∧ 1 ≤ k2 ∧ p + 1 + k2 ≤ n ∧ CInv ys (p + 1 + k2) kk zs ∧ Has wr blk (u64s zs) 27 ∧ Only (fun k => k = blk) w wr) (fun _ s5 _ => n - (RowKit.intOf s5).toNat)
          case atStart => exact ⟨p + 1, 1, ys, rfl, rfl, Nat.le_refl _, by omega, hst2.out⟩
          case round =>
            clear hst2
            obtain ⟨kk, k2, zs, rfl, rfl, h1, hle, hI, hB, hO⟩ := hrel
            have hkk := hI.lt
            have hzl := hI.l.trans hn.out
            by_cases hlt2 : ¬ (p + 1 + k2 < n)
            · have hend : p + 1 + k2 = n := by omega
              have kd2 : decide ((k2 : Int) < ((n - (p + 1) : Nat) : Int)) = false := decide_eq_false (by omega)
              have k3 : ¬ (k2 : Int) < ((n - (p + 1) : Nat) : Int) := by omega
              have hz : ∀ j, j < n → zs[j]? = some (zs.getD j 0) := fun j hj => get_of_lt 0 (by omega)
              have hcl : ∀ ty, (Builtin.clear_ #[70] ty #[.slice (some ⟨blk, kk, none⟩) (n - kk) (cap - kk)]).run Try.prog wr = .ok (.tuple #[]) (wr.setCells blk kk (List.replicate (n - kk) (.int .u64 0))) := fun ty =>
                Lib.run_clear_slice wr 70 27 ty (.int .u64 0) Try.underlying70 (fun w => Try.zeroValue27 w) rfl rfl blk kk (n - kk) (cap - kk) (by omega) (fun j hj => by rw [hB.cell (u64s_get _ _ _ (hz (kk + j) (by omega)))]; rfl) (fun j hj => hB.free (kk + j))
              have hsp : u64s zs = u64s (zs.take kk) ++ u64s (zs.drop kk) := by unfold u64s; rw [← List.map_append, List.take_append_drop]
              have hpl : (u64s (zs.take kk)).length = kk := by rw [u64s_len, List.length_take]; omega
              have hB2 := set_from (List.replicate (n - kk) (.int .u64 0)) (u64s (zs.take kk)) (u64s (zs.drop kk)) wr blk 27 (by rw [← hsp]; exact hB) (by rw [List.length_replicate, u64s_len, List.length_drop]; omega)
              rw [hpl] at hB2
              have hf := Lib.hid (hfin.out (zs.take kk) kk _ _ (by rw [List.length_take]; omega) (fun y => by rw [hI.m y, hend, ← hn.out, List.take_length]) (by omega) hB2 (hO.trans (set_only _ _ _ _)))
              have hkn : kk ≤ n := by omega
              clear hB hO hI hB2 hsp hpl hz
              go_wp2_with fail
              first | exact hf.out | (go_ret; exact hf.out)
            · replace hlt2 := Classical.not_not.1 hlt2
              obtain ⟨q, rfl⟩ : ∃ q, k2 = q + 1 := ⟨k2 - 1, by omega⟩
              have kd2 : decide (((q + 1 : Nat) : Int) < ((n - (p + 1) : Nat) : Int)) = true := decide_eq_true (by omega)
              have k3 : ((q + 1 : Nat) : Int) < ((n - (p + 1) : Nat) : Int) := by omega
              have qw : wrap64 (((q + 1 : Nat) : Int) - 1) = (q : Int) := by unfold wrap64; omega
              have qw2 := Lib.hid (show wrap64 (((q + 1 : Nat) : Int) + 1) = ((q + 1 + 1 : Nat) : Int) from by unfold wrap64; omega)
              have kkw := Lib.hid (show wrap64 ((kk : Int) + 1) = ((kk + 1 : Nat) : Int) from by unfold wrap64; omega)
              have g1 := hget.out (p + 1 + (q + 1)) hlt2
              have g0 := hget.out (p + 1 + q) (by omega)
              obtain ⟨u, hu⟩ : ∃ u, ys.getD (p + 1 + (q + 1)) 0 = u := ⟨_, rfl⟩
              obtain ⟨v, hv⟩ : ∃ v, ys.getD (p + 1 + q) 0 = v := ⟨_, rfl⟩
              rw [hu] at g1
              rw [hv] at g0
              have cm := hB.cell (o := p + 1 + (q + 1)) (u64s_get _ _ _ (by rw [hI.high _ (by omega)]; exact g1))
              have cp := hB.cell (o := p + 1 + q) (u64s_get _ _ _ (by rw [hI.high _ (by omega)]; exact g0))
              have ck := hB.cell (o := kk) (u64s_get _ _ _ (get_of_lt 0 (by omega)))
              have fk := hB.free kk
              obtain ⟨old, hold⟩ : ∃ old, zs.getD kk 0 = old := ⟨_, rfl⟩
              rw [hold] at ck
              have hkn : (kk : Int) < (n : Int) := by omega
              have hst3 := Lib.hid (show CInv ys (p + 1 + (q + 1)) kk zs ∧ Has wr blk (u64s zs) 27 ∧ Only (fun k => k = blk) w wr from ⟨hI, hB, hO⟩)
              clear hI hB hO hu hv hold
              replace g1 := Lib.hid g1
              replace g0 := Lib.hid g0
              replace qw := Lib.hid qw
              by_cases huv : u = v
              · subst huv
                have exx : ((u : Int) != (u : Int)) = false := by simp
                go_upto_region 11 with fail
                go_region
                have hst4 := Lib.hid (show CInv ys (p + 1 + (q + 1 + 1)) kk zs ∧ Has wr.drew blk (u64s zs) 27 ∧ Only (fun k => k = blk) w wr.drew from ⟨hst3.out.1.skip g1.out (by rw [show p + 1 + (q + 1) - 1 = p + 1 + q by omega]; exact g0.out), hst3.out.2.1.drew, hst3.out.2.2.drew⟩)
                clear cm cp ck fk hst3
                go_wp2_with fail
                first | rw [qw2.out] | skip
                go_roundw
                case rel => exact ⟨kk, q + 1 + 1, zs, rfl, rfl, by omega, by omega, hst4.out⟩
                case measure => simp [RowKit.intOf]; try omega
              · have exy : ((u : Int) != (v : Int)) = true := by simp; omega
                replace huv := Lib.hid huv
                go_upto_region 11 with fail
                go_region
                have hst4 := Lib.hid (show CInv ys (p + 1 + (q + 1 + 1)) (kk + 1) (zs.set kk u) ∧ Has (wr.drew.setCell ⟨blk, kk, none⟩ (.int .u64 (u : Int))) blk (u64s (zs.set kk u)) 27 ∧ Only (fun k => k = blk) w (wr.drew.setCell ⟨blk, kk, none⟩ (.int .u64 (u : Int))) from
                  ⟨hst3.out.1.keep g1.out, by rw [u64s_set]; exact hst3.out.2.1.drew.set kk _, hst3.out.2.2.drew.setCell (a := ⟨blk, kk, none⟩) (fun _ => rfl) _⟩)
                have cm2 : wr.drew.cell? ⟨blk, p + 1 + (q + 1), none⟩ = some (.int .u64 (u : Int)) := cm
                have ck2 : wr.drew.cell? ⟨blk, kk, none⟩ = some (.int .u64 (old : Int)) := ck
                have fk2 : wr.drew.frozen? ⟨blk, kk, none⟩ = false := fk
                clear cm cp ck fk hst3
                go_wp2_with fail
                first | rw [qw2.out] | skip
                first | rw [kkw.out] | skip
                go_roundw
                case rel => exact ⟨kk + 1, q + 1 + 1, zs.set kk u, rfl, rfl, by omega, by omega, hst4.out⟩
                case measure => simp [RowKit.intOf]; try omega
        · have exy : ((x : Int) == (y : Int)) = false := by simp; omega
          replace hxy := Lib.hid hxy
          go_upto_region 6 with fail
          go_region
          have hst2 := Lib.hid (show Has wr.drew blk (u64s ys) 27 ∧ Only (fun k => k = blk) w wr.drew from ⟨hst1.out.1.drew, hst1.out.2.drew⟩)
          clear c1 c0 hst1
          go_wp2_with fail
          first | rw [kw.out] | skip
          go_roundw
          case rel => exact ⟨p + 1 + 1, by omega, by omega, rfl, hst2.out⟩
          case measure => simp [RowKit.intOf]; try omega
end Go.Proofs.Ytjmdibgncaljaaa
