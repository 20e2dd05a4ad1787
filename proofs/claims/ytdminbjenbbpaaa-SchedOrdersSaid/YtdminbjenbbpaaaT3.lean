/- The reference's Next where there is a next sequence. -/
import Derived.Test.YtdminbjenbbpaaaT2
namespace Go.Proofs.Ytdminbjenbbpaaa
open Go.RowKit
/-- What stands at place q behind the exchange. -/
def exE (L : List Nat) (jp x : Nat) (q : Nat) : Nat := if q = jp then x else L.getD q 0
def exT (L : List Nat) (i jp x y c : Nat) : List Nat := L.take i ++ y :: (List.range c).map (fun u => exE L jp x (L.length - 1 - u))
theorem exT_len (L : List Nat) (i jp x y c : Nat) (hi : i ≤ L.length) : (exT L i jp x y c).length = i + 1 + c := by
  unfold exT; rw [List.length_append, List.length_take, List.length_cons, List.length_map, List.length_range]; omega
theorem exT_succ (L : List Nat) (i jp x y c : Nat) : exT L i jp x y (c + 1) = exT L i jp x y c ++ [exE L jp x (L.length - 1 - c)] := by
  unfold exT; rw [List.range_succ, List.map_append, List.append_assoc]; rfl
theorem intsN_app (a b : List Nat) : intsN (a ++ b) = intsN a ++ intsN b := by unfold intsN; rw [List.map_append]
theorem intsN_get (L : List Nat) (j : Nat) (h : j < L.length) : (intsN L)[j]? = some (.int .i64 ((L.getD j 0 : Nat) : Int)) := by
  unfold intsN; rw [List.getElem?_map, List.getElem?_eq_getElem h, List.getD_eq_getElem?_getD, List.getElem?_eq_getElem h]; rfl
/-- What ref Next leaves. -/
def RNext (w : World) (T : List Nat) : Ending → World → Prop := fun e w' =>
  ∃ g cp, e = .returned (.slice (some ⟨g, 0, none⟩) T.length cp) ∧ w'.ownsRow 0 3 1 (.slice (some ⟨g, 0, none⟩) T.length cp) T.length (intsN T) ∧ Below w.heap.size w w' ∧ w.heap.size ≤ g
set_option maxHeartbeats 4000000 in
set_option maxRecDepth 100000 in
theorem refnext_some (l : List Nat) (b off c i jp x y : Nat) (w : World) (hv : ∀ j, j < l.length → w.cell? ⟨b, off + j, none⟩ = some (.int .i64 ((l.getD j 0 : Nat) : Int))) (hl : l.length ≤ 4096) (hlc : l.length ≤ c)
    (hps : i < jp) (hsl : jp < l.length) (hx : l.getD i 0 = x) (hy : l.getD jp 0 = y) (hxy : x < y) (hx1 : x < l.getD (i + 1) 0)
    (hd : ∀ j, i < j → j + 1 < l.length → l.getD (j + 1) 0 ≤ l.getD j 0) (hb : ∀ j, jp < j → j < l.length → l.getD j 0 ≤ x) :
    Calls Try.prog 31 #[.slice (some ⟨b, off, none⟩) l.length c] w (RNext w (exT l i jp x y (l.length - 1 - i))) := by
  generalize hpost : RNext w (exT l i jp x y (l.length - 1 - i)) = post
  replace hpost := Lib.hid hpost
  replace hv := Lib.hid hv
  replace hd := Lib.hid hd
  replace hb := Lib.hid hb
  replace hl := Lib.hid hl
  replace hx := Lib.hid hx
  replace hy := Lib.hid hy
  replace hx1 := Lib.hid hx1
  go_enter Try.func31, Try.ntmps31
  go_wp2_with fail
  go_loopw [3] (fun iv wr => ∃ (k d : Nat), i ≤ k ∧ k + 2 ≤ l.length ∧ iv = .int .i64 (k : Int) ∧ wr = w.drewN d) (fun iv _ => ((intOf iv) + 2).toNat)
  case atStart =>
    have := hl.out
    refine ⟨l.length - 2, 0, by omega, by omega, ?_, rfl⟩
    rw [show wrap64 ((l.length : Int) - 2) = ((l.length - 2 : Nat) : Int) by unfold wrap64; omega]
  case round =>
    obtain ⟨k, d, h1, h2, rfl, rfl⟩ := hrel
    have ck := hv.out k (by omega)
    have ck1 := hv.out (k + 1) (by omega)
    have hwm : IntKind.i64.wrap ((k : Int) + 1) = ((k + 1 : Nat) : Int) := by have := hl.out; have h := IntWalk.i64_in ((k : Int) + 1) (by omega); rw [h]; rfl
    have hwk : wrap64 ((k : Int) + 1) = ((k + 1 : Nat) : Int) := by have := hl.out; unfold wrap64; omega
    have hi0 : (0 : Int) ≤ (k : Int) := by omega
    have hi1 : (k : Int) < (l.length : Int) := by omega
    have hi2 : ((k + 1 : Nat) : Int) < (l.length : Int) := by omega
    have hi3 : (0 : Int) ≤ ((k + 1 : Nat) : Int) := by omega
    have hdk : decide ((0 : Int) ≤ (k : Int)) = true := decide_eq_true hi0
    by_cases h0 : i < k
    · have hge := hd.out k h0 (by omega)
      have hge1 : decide ((l.getD (k + 1) 0 : Int) ≤ (l.getD k 0 : Int)) = true := decide_eq_true (by omega)
      have hge2 : decide (l.getD (k + 1) 0 ≤ l.getD k 0) = true := decide_eq_true hge
      generalize l.getD k 0 = x1 at *
      generalize l.getD (k + 1) 0 = y1 at *
      have hl4 := hl.out
      go_wp2_with fail
      go_quiet (fail)
      go_wp2_with fail
      refine ⟨⟨k - 1, _, by omega, by omega, ?_, rfl⟩, by simp [intOf]; omega⟩
      congr 1; omega
    · obtain rfl : k = i := by omega
      have hlt := hx1.out
      rw [hx.out] at ck
      have hge1 : decide ((l.getD (k + 1) 0 : Int) ≤ (x : Int)) = false := decide_eq_false (by omega)
      have hge2 : decide (l.getD (k + 1) 0 ≤ x) = false := decide_eq_false (by omega)
      generalize l.getD (k + 1) 0 = y1 at *
      have hl4 := hl.out
      go_wp2_with fail
      go_quiet (fail)
      go_wp2_with fail
      clear hwm hwk hi2 hi3 ck1 hge1 hge2 hlt
      go_loopw [4] (fun jv wr => ∃ (q d : Nat), jp ≤ q ∧ q < l.length ∧ jv = .int .i64 (q : Int) ∧ wr = w.drewN d) (fun jv _ => (intOf jv).toNat)
      case atStart =>
        refine ⟨l.length - 1, _, by omega, by omega, ?_, rfl⟩
        first | (congr 1; omega) | (rw [show wrap64 ((l.length : Int) - 1) = ((l.length - 1 : Nat) : Int) by unfold wrap64; omega])
      case round =>
        obtain ⟨q, d2, h3, h4, rfl, rfl⟩ := hrel
        have cq := hv.out q h4
        have hj0 : (0 : Int) ≤ (q : Int) := by omega
        have hj1 : (q : Int) < (l.length : Int) := by omega
        by_cases hq : jp < q
        · have hle := hb.out q hq h4
          have hle1 : decide ((l.getD q 0 : Int) ≤ (x : Int)) = true := decide_eq_true (by omega)
          have hle2 : decide (l.getD q 0 ≤ x) = true := decide_eq_true hle
          generalize l.getD q 0 = z at *
          go_wp2_with fail
          try go_quiet (fail)
          go_wp2_with fail
          refine ⟨⟨q - 1, _, by omega, by omega, ?_, rfl⟩, by simp [intOf]; omega⟩
          congr 1; omega
        · obtain rfl : q = jp := by omega
          rw [hy.out] at cq
          have hle1 : decide ((y : Int) ≤ (x : Int)) = false := decide_eq_false (by omega)
          have hle2 : decide (y ≤ x) = false := decide_eq_false (by omega)
          have hnews : ∀ j u, (intsN (l.take k))[j]? = some u → w.cell? ((⟨b, off, none⟩ : Addr).add j) = some u := fun j u hu => by
            have hj : j < (l.take k).length := by
              rcases Nat.lt_or_ge j (l.take k).length with h | h
              · exact h
              · rw [List.getElem?_eq_none (by rw [intsN_len]; exact h)] at hu; cases hu
            rw [intsN_get _ _ hj] at hu
            have hjl : j < k := by rw [List.length_take] at hj; omega
            have e1 : (⟨b, off, none⟩ : Addr).add j = ⟨b, off + j, none⟩ := by unfold Addr.add; split <;> simp_all
            rw [e1, hv.out j (by omega), ← hu, List.getD_eq_getElem?_getD, List.getD_eq_getElem?_getD, List.getElem?_take_of_lt hjl]
          have hone : ∀ u ∈ intsN (l.take k), u.oneCell' = true := fun u hu => by
            unfold intsN at hu; obtain ⟨n, _, rfl⟩ := List.mem_map.1 hu; rfl
          have hklen : (l.take k).length = k := by rw [List.length_take]; omega
          have hnl : (intsN (l.take k)).length = k * 1 := by rw [intsN_len, hklen]; omega
          replace hnews := Lib.hid hnews
          replace hone := Lib.hid hone
          replace hnl := Lib.hid hnl
          replace hklen := Lib.hid hklen
          have hkc : (k : Int) ≤ (c : Int) := by omega
          have hpw : ∀ D : Nat, ∃ W1, W1 = w.drewN D ∧ (∀ j, j < l.length → W1.cell? ⟨b, off + j, none⟩ = some (.int .i64 ((l.getD j 0 : Nat) : Int))) ∧ (∀ j u, (intsN (l.take k))[j]? = some u → W1.cell? ((⟨b, off, none⟩ : Addr).add j) = some u) ∧ Below w.heap.size w W1 := fun D => ⟨_, rfl, hv.out, hnews.out, below_drewN D w (Below.refl _ _)⟩
          replace hpw := Lib.hid hpw
          go_wp2_with fail
          try go_quiet (fail)
          obtain ⟨W1, hW1, hv1, hn1, hB1⟩ := hpw.out (d2 + nq)
          first | rw [← hW1] | rw [World.drewN_drewN, ← hW1]
          have x0 := hv1 k (by omega)
          have y0 := hv1 q (by omega)
          rw [hx.out] at x0
          rw [hy.out] at y0
          replace hv1 := Lib.hid hv1
          replace hn1 := Lib.hid hn1
          replace hB1 := Lib.hid hB1
          replace hW1 := Lib.hid hW1
          clear ck cq hnews hpw hle1 hle2
          have hBs := hB1.out.size
          have hkb : (0 + k) * 8 ≤ 140737488355328 := by omega
          have hz1 : (0 + k + 1) * 8 ≤ 140737488355328 := by omega
          have h0k : 0 + k = k := by omega
          go_wp2_with (at_builtin; refine wpList_app rfl (.tmp 38) (.tmp 41) 23 rfl 3 (.int .i64 0) 1 8 Try.underlying23 info3 rfl (by decide) (by decide) none 0 0 [] (World.ownsRow_nil _ _ _ _) rfl ⟨b, off, none⟩ k c (intsN (l.take k)) rfl hnl.out hn1.out hone.out hkb ?_)
          intro sa1 cp1 w2 own2 only2 fr2
          try rw [List.nil_append] at own2
          have hB2 : Below w.heap.size w w2 := hB1.out.trans (only2.below (B := w.heap.size) hBs (fun j _ hj => by cases hj))
          have hf2 : ∀ g, Value.ownBlock (.slice sa1 k cp1) = some g → w.heap.size ≤ g := fun g hg => by
            rcases fr2 g hg with h | h
            · cases h
            · omega
          have y2 : w2.cell? ⟨b, off + q, none⟩ = some (.int .i64 (y : Int)) := only2.cell y0 (fun h => by cases h)
          replace own2 := Lib.hid own2
          replace hB2 := Lib.hid hB2
          replace hf2 := Lib.hid hf2
          clear fr2 only2 x0 y0
          have hk1 : (k + 1) * 8 ≤ 140737488355328 := by omega
          go_wp2_with (at_builtin; refine wpList_app1 rfl (.tmp 43) (.tmp 48) 23 rfl 3 (.int .i64 0) 8 Try.underlying23 info3 rfl (by decide) sa1 k cp1 _ rfl (.int .i64 (y : Int)) _ w2 rfl rfl own2.out _ rfl rfl rfl hk1 ?_)
          intro sa2 cp2 w3 own3 only3 fr3
          have hk2 : (intsN (l.take k) ++ [Value.int .i64 (y : Int)]) = intsN (exT l k q x y 0) := by unfold exT; rw [intsN_app]; rfl
          rw [hk2] at own3
          have hs2 := hB2.out.size
          have hB3 : Below w.heap.size w w3 := hB2.out.trans (only3.below (B := w.heap.size) hs2 (fun j _ hj => hf2.out j hj))
          have hf3 : ∀ g, Value.ownBlock (.slice sa2 (k + 1) cp2) = some g → w.heap.size ≤ g := fun g hg => by
            rcases fr3 g hg with h | h
            · exact hf2.out g h
            · omega
          have hxi := hx.out
          replace own3 := Lib.hid own3
          replace hB3 := Lib.hid hB3
          replace hf3 := Lib.hid hf3
          clear fr3 only3 y2 own2 hf2 hB2 hk2 hs2 hBs
          go_wp2_with fail
          go_loopw [5, 6] (fun tv kv wr => ∃ (n : Nat) (sa : Option Addr) (cp m : Nat), n ≤ l.length - 1 - k ∧ m = k + 1 + n ∧ kv = .int .i64 ((l.length - 1 - n : Nat) : Int) ∧ tv = .slice sa m cp ∧ wr.ownsRow 0 3 1 (.slice sa m cp) m (intsN (exT l k q x y n)) ∧ Below w.heap.size w wr ∧
            (∀ g, Value.ownBlock (.slice sa m cp) = some g → w.heap.size ≤ g)) (fun _ kv _ => (intOf kv).toNat)
          case atStart => exact ⟨0, sa2, cp2, k + 1, Nat.zero_le _, rfl, by congr 1; omega, rfl, own3.out, hB3.out, hf3.out⟩
          case round =>
            clear own3 hB3 hf3
            obtain ⟨n, sa, cp, m, hn, hm, rfl, rfl, own, hB, hf⟩ := hrel
            obtain ⟨s, hs⟩ : ∃ s, s = l.length - 1 - n := ⟨_, rfl⟩
            rw [← hs]
            have hsz := hB.size
            have hmb : (m + 1) * 8 ≤ 140737488355328 := by omega
            have hcx : wr.cell? ⟨b, off + k, none⟩ = some (.int .i64 (x : Int)) := by
              have h0 := hv.out k (by omega); rw [hxi] at h0
              exact (hB.cell (World.block_lt_of_cell? _ _ h0)).trans h0
            have hex := exT_succ l k q x y n
            rw [← hs] at hex
            replace hs := Lib.hid hs
            replace own := Lib.hid own
            replace hB := Lib.hid hB
            replace hf := Lib.hid hf
            replace hm := Lib.hid hm
            replace hn := Lib.hid hn
            by_cases hgt : k < s
            · have hs0 : (0 : Int) ≤ (s : Int) := by omega
              have hs1 : (s : Int) < (l.length : Int) := by have := hs.out; omega
              have hk0 : (0 : Int) ≤ (k : Int) := by omega
              have hk1 : (k : Int) < (l.length : Int) := by omega
              have hg1 : decide ((k : Int) < (s : Int)) = true := decide_eq_true (by omega)
              have hg2 : decide (k < s) = true := decide_eq_true hgt
              have hcs : wr.cell? ⟨b, off + s, none⟩ = some (.int .i64 ((l.getD s 0 : Nat) : Int)) := by
                have h0 := hv.out s (by have := hs.out; omega)
                exact (hB.out.cell (World.block_lt_of_cell? _ _ h0)).trans h0
              generalize hz : l.getD s 0 = z at *
              replace hz := Lib.hid hz
              have hlv := hl.out
              by_cases hsq : s = q
              · have he : exE l q x s = x := if_pos hsq
                have hd1 : decide (s = q) = true := decide_eq_true hsq
                have hd2 : decide ((s : Int) = (q : Int)) = true := decide_eq_true (by omega)
                have hd3 : ((s : Int) == (q : Int)) = true := beq_iff_eq.2 (by omega)
                rw [he] at hex
                replace hex := Lib.hid hex
                replace hsq := Lib.hid hsq
                go_wp2_with (at_builtin; refine wpList_app1 rfl (.tmp 61) (.tmp 66) 23 rfl 3 (.int .i64 0) 8 Try.underlying23 info3 rfl (by decide) sa m cp _ rfl (.int .i64 (x : Int)) _ wr rfl rfl own.out _ rfl rfl rfl hmb ?_)
                intro sa5 cp5 w5 own5 only5 fr5
                have own6 : w5.ownsRow 0 3 1 (.slice sa5 (m + 1) cp5) (m + 1) (intsN (exT l k q x y (n + 1))) := by rw [hex.out, intsN_app]; exact own5
                have hB6 : Below w.heap.size w w5 := hB.out.trans (only5.below (B := w.heap.size) hsz (fun j _ hj => hf.out j hj))
                have hf6 : ∀ g, Value.ownBlock (.slice sa5 (m + 1) cp5) = some g → w.heap.size ≤ g := fun g hg => by
                  rcases fr5 g hg with h | h
                  · exact hf.out g h
                  · omega
                replace own6 := Lib.hid own6
                replace hB6 := Lib.hid hB6
                replace hf6 := Lib.hid hf6
                clear own5 only5 fr5 own hB hf
                go_wp2_with fail
                refine ⟨⟨n + 1, sa5, cp5, m + 1, by have := hn.out; have := hs.out; omega, by have := hm.out; omega, ?_, rfl, own6.out, hB6.out, hf6.out⟩, by simp [intOf]; omega⟩
                congr 1; have := hs.out; omega
              · have he : exE l q x s = z := by rw [← hz.out]; exact if_neg hsq
                have hd1 : decide (s = q) = false := decide_eq_false hsq
                have hd2 : decide ((s : Int) = (q : Int)) = false := decide_eq_false (by omega)
                have hd3 : ((s : Int) == (q : Int)) = false := beq_eq_false_iff_ne.2 (by omega)
                rw [he] at hex
                replace hex := Lib.hid hex
                go_wp2_with (at_builtin; refine wpList_app1 rfl (.tmp 68) (.tmp 73) 23 rfl 3 (.int .i64 0) 8 Try.underlying23 info3 rfl (by decide) sa m cp _ rfl (.int .i64 (z : Int)) _ wr rfl rfl own.out _ rfl rfl rfl hmb ?_)
                intro sa5 cp5 w5 own5 only5 fr5
                have own6 : w5.ownsRow 0 3 1 (.slice sa5 (m + 1) cp5) (m + 1) (intsN (exT l k q x y (n + 1))) := by rw [hex.out, intsN_app]; exact own5
                have hB6 : Below w.heap.size w w5 := hB.out.trans (only5.below (B := w.heap.size) hsz (fun j _ hj => hf.out j hj))
                have hf6 : ∀ g, Value.ownBlock (.slice sa5 (m + 1) cp5) = some g → w.heap.size ≤ g := fun g hg => by
                  rcases fr5 g hg with h | h
                  · exact hf.out g h
                  · omega
                replace own6 := Lib.hid own6
                replace hB6 := Lib.hid hB6
                replace hf6 := Lib.hid hf6
                clear own5 only5 fr5 own hB hf
                go_wp2_with fail
                refine ⟨⟨n + 1, sa5, cp5, m + 1, by have := hn.out; have := hs.out; omega, by have := hm.out; omega, ?_, rfl, own6.out, hB6.out, hf6.out⟩, by simp [intOf]; omega⟩
                congr 1; have := hs.out; omega
            · have hsk : s = k := by have := hn.out; have := hs.out; omega
              have hnk : n = l.length - 1 - k := by have := hn.out; have := hs.out; omega
              have hg1 : decide ((k : Int) < (s : Int)) = false := decide_eq_false (by omega)
              have hg2 : decide (k < s) = false := decide_eq_false hgt
              have hpf : post (.returned (.slice sa m cp)) wr := by
                rw [← hpost.out]
                have hT : (exT l k q x y (l.length - 1 - k)).length = m := by rw [exT_len _ _ _ _ _ _ (by omega), hm.out, hnk]
                have hown := own.out
                rw [hnk] at hown
                obtain ⟨_, h2⟩ := id hown
                rcases h2 with ⟨_, h0⟩ | ⟨g, cap', cur, hv', _⟩
                · have := hm.out; omega
                · simp only [Value.slice.injEq, true_and] at hv'
                  obtain ⟨rfl, rfl⟩ := hv'
                  refine ⟨g, cp, by rw [hT], by rw [hT]; exact hown, hB.out, hf.out g rfl⟩
              replace hpf := Lib.hid hpf
              clear hs hsk hnk hex hcx hmb hsz
              go_wp2_with fail
              first | exact hpf.out | (go_ret; exact hpf.out)
end Go.Proofs.Ytdminbjenbbpaaa
