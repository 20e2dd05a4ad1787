/- The reference's device: New, Current. -/
import Derived.Test.YtikjpklbbjmioaaE10
import Derived.Test.YtikjpklbbjmioaaD16
namespace Go.Proofs.Ytikjpklbbjmioaa
open Go.RowKit Go.Maps
variable {w : World} {F : Own} {o h T : Nat} {R : Dv}

theorem infoRLn : (Try.prog.info? 122).map (fun i => (i.zero, i.size, i.bytes)) = some (some (.agg #[.int .u64 0, .int .u64 0, .int .u64 0, .int .u64 0, .int .u64 0, .int .u64 0, .int .u64 0, .int .u64 0, .slice none 0 0, .int .i64 0]), 10, 96) := by kernel_rfl
def zeroLn : Array Value := #[.int .u64 0, .int .u64 0, .int .u64 0, .int .u64 0, .int .u64 0, .int .u64 0, .int .u64 0, .int .u64 0, .slice none 0 0, .int .i64 0]
def RNewPost (w : World) (F : Own) (o : Nat) (R : Dv) (e : Ending) (w' : World) : Prop :=
  ∃ h F', e = .returned (.pointer (some ⟨h, 0, none⟩)) ∧ RefSt w' F' o h 0 R ∧ Ext w F F' ∧ Below w.heap.size w w'
theorem zero_lines (w : World) (F : Own) (o n : Nat) (h1 : 1 ≤ n) (h2 : n ≤ 4096) : RLinSt (w.alloc (.cells (madeCells zeroLn (n * 10)) 122)) (F.put w.heap.size (o, 1, 0)) o w.heap.size n (newP n) := by
  have hll : (newP n).lines.length = n := by simp [newP]
  have hg : ∀ k, k < n * 10 → (madeCells zeroLn (n * 10)).toList[k]? = some (zeroLn[k % 10]!) := fun k hk => madeCells_get zeroLn (n * 10) k hk
  refine ⟨(madeCells zeroLn (n * 10)).toList, fun _ => .slice none 0 0, ?_, ?_⟩
  · rw [hll]
    refine ⟨by rw [madeCells_len], .inr ⟨w.heap.size, n, _, rfl, Nat.zero_le _, heap_alloc_new, Nat.le_refl _, by unfold maxLen; omega, by rw [← Array.length_toList, madeCells_len], ?_⟩⟩
    rw [List.take_of_length_le (by rw [madeCells_len]; omega)]
  · intro i hi
    rw [hll] at hi
    rw [newP_line n i hi]
    refine ⟨?_, ?_, ?_, Rd.nil _, fun hc => absurd rfl hc, ?_⟩
    · intro j hj
      rw [hg _ (by omega), show (i * 10 + j) % 10 = j from by omega]
      match j, hj with
      | 0, _ | 1, _ | 2, _ | 3, _ | 4, _ | 5, _ | 6, _ | 7, _ => rfl
    · rw [hg _ (by omega), show (i * 10 + 8) % 10 = 8 from by omega]; rfl
    · rw [hg _ (by omega), show (i * 10 + 9) % 10 = 9 from by omega]; rfl
    · intro a m c e; cases e; exact ⟨Nat.le_refl _, fun _ => rfl⟩
set_option maxHeartbeats 2000000 in
set_option maxRecDepth 100000 in
theorem rnew_any (w : World) (F : Own) (o n : Nat) (h1 : 1 ≤ n) (h2 : n ≤ 4096) : Calls Try.prog 18 #[.int .i64 (n : Int)] w (RNewPost w F o (newP n)) := by
  generalize hpost : RNewPost w F o (newP n) = post
  have hmk := makeN (P := Try.prog) 105 122 (.agg zeroLn) zeroLn 10 96 Try.underlying105 infoRLn rfl n (by omega) (by omega) w
  have hfin : post (.returned (.pointer (some ⟨w.heap.size + 1, 0, none⟩))) ((w.alloc (.cells (madeCells zeroLn (n * 10)) 122)).alloc (.cells (refCells w.heap.size n (fun _ => .slice none 0 0) (newP n)).toArray 110)) := by
    rw [← hpost]
    have z := zero_lines w F o n h1 h2
    have hne : (F.put w.heap.size (o, 1, 0)).put (w.heap.size + 1) (o, 0, 0) w.heap.size = some (o, 1, 0) := by rw [Own.put_ne _ _ (by omega), Own.put_at]
    have hx : Ext (w.alloc (.cells (madeCells zeroLn (n * 10)) 122)) (F.put w.heap.size (o, 1, 0)) ((F.put w.heap.size (o, 1, 0)).put (w.heap.size + 1) (o, 0, 0)) := (Ext.refl _ _).put (by simp) _
    refine ⟨w.heap.size + 1, (F.put w.heap.size (o, 1, 0)).put (w.heap.size + 1) (o, 0, 0), rfl, ⟨newP_ok n h1 h2, ⟨w.heap.size, n, fun _ => .slice none 0 0, ?_, ?_, hne, ?_⟩, Own.put_at _ _ _⟩, ((Ext.refl w F).put (Nat.le_refl _) _).put (by omega) _, ((Below.refl w.heap.size w).alloc (Nat.le_refl _) _).alloc (by simp) _⟩
    · have := Has.newA (w.alloc (.cells (madeCells zeroLn (n * 10)) 122)) (refCells w.heap.size n (fun _ => .slice none 0 0) (newP n)).toArray 110
      simpa using this
    · exact z.kept (Own.put_at _ _ _) ((Only.refl (fun _ => False) _).alloc _) hx (fun _ s => s.elim)
    · intro t ht
      rw [show (newP n).notes.getD t [] = [] from rep_getD 8 t [] [] ht]
      exact ⟨Rd.nil _, fun hc => absurd rfl hc, fun a m c e => by cases e; exact ⟨Nat.le_refl _, fun _ => rfl⟩⟩
  have hrc : (refCells w.heap.size n (fun _ => .slice none 0 0) (newP n)).toArray = #[.slice (some ⟨w.heap.size, 0, none⟩) n n, .slice none 0 0, .slice none 0 0, .slice none 0 0, .slice none 0 0, .slice none 0 0, .slice none 0 0, .slice none 0 0, .slice none 0 0,
      .int .i64 0, .int .i64 0, .int .i64 0, .int .i64 0, .int .i64 0, .int .i64 0, .int .i64 0, .int .i64 0, .int .i64 (-1), .bool false, .int .u64 0] := by
    simp [refCells, newP]
  rw [hrc] at hfin
  replace hfin := Lib.hid hfin
  replace hrc := Lib.hid hrc
  clear hpost
  go_enter Try.func18, Try.ntmps18
  go_wp2_with fail
  exact hfin.out

theorem curK_take (R : Dv) (j n : Nat) (h : (dirtyL R)[j]? = some n) : (curK R).take (j + 1) = (curK R).take j ++ [(R.line n).hist.length] := by
  unfold curK; rw [List.take_add_one, List.getElem?_map, h]; rfl
theorem curK_len (R : Dv) : (curK R).length = (dirtyL R).length := by simp [curK]
theorem kOf_curLe (R : Dv) (l : Nat) (hl : l < R.lines.length) : kOf R (curK R) l ≤ (R.line l).hist.length := by
  by_cases hc : 0 < (R.line l).hist.length
  · have h1 := dirty_lt hl hc
    have h2 := dirty_place hl hc
    unfold kOf
    rw [if_pos hc, curK_len, if_pos h1]
    unfold curK
    rw [getD_of 0 (by rw [List.getElem?_map, h2]; rfl)]
    exact Nat.le_refl _
  · unfold kOf; rw [if_neg hc]; omega
theorem NewBytes.up {w w1 : World} {xs : List Nat} {e : Ending} {w' : World} (hp : NewBytes w1 xs e w') (hb : Below w.heap.size w w1) : NewBytes w xs e w' := by
  obtain ⟨a, c, h1, h2⟩ := hp
  exact ⟨a, c, h1, h2.own, hb.trans (h2.b.mono hb.size), fun j hj => Nat.le_trans hb.size (h2.fr j hj)⟩
set_option maxHeartbeats 4000000 in
set_option maxRecDepth 100000 in
theorem rcurrent_any (hr : RefSt w F o h T R) : Calls Try.prog 66 #[.pointer (some ⟨h, 0, none⟩)] w (NewBytes w (bytesL R.curW)) := by
  generalize hpost : NewBytes w (bytesL R.curW) = post
  have hn2 := hr.ok.n2
  have hA := hr.alloc (.cells #[] 3)
  have hB0 := (Below.refl w.heap.size w).alloc (Nat.le_refl _) (.cells #[] 3)
  have hd := Lib.hid (rdirty_any hA)
  have hdl : (dirtyL R).length ≤ R.lines.length := dirtyTo_len R R.lines.length
  have hG0 := Grow.empty w 3
  have hcon : ∀ (w1 : World) (a : Option Addr) (c : Nat), Grow w w1 3 a (curK R).length c (nats (curK R)) → Calls Try.prog 55 #[.pointer (some ⟨h, 0, none⟩), .slice a (curK R).length c] w1 (fun e w' => ∃ v, e = .returned v ∧ post (.returned v) w') := by
    intro w1 a c hG
    have := rcontent_any (hr.below hG.b) a c (curK R) (Rd.of_own hG.own) (fun l hl => kOf_curLe R l hl) (by rw [curK_len]; omega)
    rw [kOf_cur] at this
    refine this.mono ?_
    intro e w' hp
    obtain ⟨b, c, rfl, hq⟩ := hp.up hG.b
    exact ⟨_, rfl, by rw [← hpost]; exact ⟨b, c, rfl, hq⟩⟩
  obtain ⟨lb, lc, ns, h1, h2, h3, _⟩ := hr.ex
  have hlb : lb < w.heap.size := by obtain ⟨cs, _, x, _⟩ := h2; exact ownsRow_lt x (k := lb) rfl
  have c := h1.cell (refCells_lines lb lc ns R)
  have hlt1 := h1.lt
  have hlines := fun (i : Nat) (hi : i < R.lines.length) => h2.cells hi
  have hkt := curK_take R
  have hkl := curK_len R
  replace hcon := Lib.hid hcon
  replace hkt := Lib.hid hkt
  replace hkl := Lib.hid hkl
  clear hpost hr hA h2
  go_enter Try.func66, Try.ntmps66
  go_wp2_with fail
  refine hd.out.mono ?_
  rintro e w1 ⟨da, dc, rfl, hown, hB1, hfr⟩
  have hG1 := hG0.below hB1
  have hrd := Rd.of_own hown
  have hs1 := hG1.b.size
  have hdmem := fun (j n : Nat) (hj : (dirtyL R)[j]? = some n) => dirtyTo_mem (List.mem_of_getElem? hj)
  replace hdmem := Lib.hid hdmem
  replace hG1 := Lib.hid hG1
  have hdis0 : ∀ q, Value.ownBlock (.slice (some ⟨w.heap.size, 0, none⟩) ((curK R).take 0).length 0) = some q → ∀ q', Value.ownBlock (.slice da (dirtyL R).length dc) = some q' → q ≠ q' := by
    intro q hq q' hq' e
    have := hfr q' hq'
    simp only [World.size_alloc] at this
    simp only [Value.ownBlock, Option.some.injEq] at hq
    omega
  have hdlt : ∀ q', Value.ownBlock (.slice da (dirtyL R).length dc) = some q' → q' < w1.heap.size := fun q' hq' => ownsRow_lt hown hq'
  replace hB1 := Lib.hid hB1
  replace hdis0 := Lib.hid hdis0
  replace hdlt := Lib.hid hdlt
  clear hown hfr hd
  go_wp2_with fail
  go_loopw [3, 10] (fun v i wr => ∃ (j : Nat) (a : Option Addr) (c : Nat), j ≤ (dirtyL R).length ∧ i = .int .i64 j ∧ v = .slice a ((curK R).take j).length c ∧ Grow w wr 3 a ((curK R).take j).length c (nats ((curK R).take j)) ∧ Rd wr (.slice da (dirtyL R).length dc) (dirtyL R).length (nats (dirtyL R)) ∧ w1.heap.size ≤ wr.heap.size ∧ ∀ q, Value.ownBlock (.slice a ((curK R).take j).length c) = some q → ∀ q', Value.ownBlock (.slice da (dirtyL R).length dc) = some q' → q ≠ q') (fun _ i _ => (dirtyL R).length - (intOf i).toNat)
  case atStart => exact ⟨0, _, 0, Nat.zero_le _, rfl, rfl, hG1.out, hrd, Nat.le_refl _, hdis0.out⟩
  case round =>
    clear hrd
    replace c := Lib.hid c
    obtain ⟨j, a, cc, hj, rfl, rfl, hG, hrd, hsz, hdis⟩ := hrel
    replace hdis := Lib.hid hdis
    by_cases hlt : j < (dirtyL R).length
    · have hjI : (j : Int) < ((dirtyL R).length : Int) := by omega
      have hj0 : (0 : Int) ≤ (j : Int) := by omega
      have hat := get_of_lt 0 hlt
      obtain ⟨bl, ol, cl, ea, fa⟩ := hrd.cells (by omega)
      simp only [Value.slice.injEq, true_and] at ea
      obtain ⟨rfl, hcap⟩ := ea
      replace hcap := Lib.hid hcap
      have ck : wr.cell? ⟨bl, ol + j, none⟩ = _ := fa _ _ (nats_get (dirtyL R) j _ hat)
      have htk := hkt.out j _ hat
      obtain ⟨hn, hnp⟩ := hdmem.out j _ hat
      generalize (dirtyL R).getD j 0 = n at *
      obtain ⟨va, vc, hlc, _⟩ := hlines n hn
      obtain ⟨c0, c1, c2, c3, c4, c5, c6, c7, c8, c9⟩ := hlc.only (Only.of_below hG.b) (Nat.not_le.2 hlb)
      have cL := (Only.of_below hG.b).cell c.out (Nat.not_le.2 hlt1)
      have hnI : (n : Int) < (R.lines.length : Int) := by omega
      have hn0 : (0 : Int) ≤ (n : Int) := by omega
      have hll : (R.line n).hist.length = (R.line n).hist.length := rfl
      generalize (R.line n).hist.length = hl at *
      replace htk := Lib.hid htk
      have hlen : ((curK R).take j).length ≤ 4096 := by rw [List.length_take, hkl.out]; omega
      generalize hX : (curK R).take j = X at *
      replace hX := Lib.hid hX
      replace hll := Lib.hid hll
      have hby : (X.length + 1) * 8 ≤ 140737488355328 := by omega
      clear hlc
      go_wp2_with (at_builtin; go_loud (refine wpList_app1 rfl (.tmp 14) (.tmp 24) 65 rfl 3 (.int .i64 0) 8 Try.underlying65 infoInt rfl (by decide) a X.length cc (nats X) rfl (.int .i64 (hl : Int)) _ _ rfl rfl hG.own _ rfl rfl (by simp [Value.oneCell']) hby ?_); intro sa cap w2 own2 only2 fresh2)
      have hG2 := hG.app own2 only2 fresh2
      have hrel : ∃ (j' : Nat) (a' : Option Addr) (c' : Nat), j' ≤ (dirtyL R).length ∧ Value.int .i64 ((j : Int) + 1) = .int .i64 j' ∧ Value.slice sa (X.length + 1) cap = .slice a' ((curK R).take j').length c' ∧ Grow w w2 3 a' ((curK R).take j').length c' (nats ((curK R).take j')) ∧ Rd w2 (.slice (some ⟨bl, ol, none⟩) (dirtyL R).length dc) (dirtyL R).length (nats (dirtyL R)) ∧
          w1.heap.size ≤ w2.heap.size ∧ ∀ q, Value.ownBlock (.slice a' ((curK R).take j').length c') = some q → ∀ q', Value.ownBlock (.slice (some ⟨bl, ol, none⟩) (dirtyL R).length dc) = some q' → q ≠ q' := by
        refine ⟨j + 1, sa, cap, by omega, by go_num, ?_, ?_, ?_, Nat.le_trans hsz only2.size, ?_⟩
        · rw [htk.out]; simp
        · rw [htk.out, nats_snoc]; simpa using hG2
        · exact hrd.only only2 (fun q' hq' s => hdis.out q' s q' hq' rfl)
        · rw [htk.out]
          intro q hq q' hq' e
          simp only [List.length_append, List.length_singleton] at hq
          rcases fresh2 q hq with h5 | h5
          · exact hdis.out q h5 q' hq' e
          · have h6 := hdlt.out q' hq'
            omega
      replace hrel := Lib.hid hrel
      refine ⟨hrel.out, ?_⟩
      simp [intOf]; omega
    · obtain rfl : j = (dirtyL R).length := by omega
      have hta : (curK R).take (dirtyL R).length = curK R := by rw [← hkl.out, List.take_length]
      rw [hta] at hG
      have hx := hcon.out wr a cc hG
      rw [← hta] at hx
      generalize (curK R).take (dirtyL R).length = X at *
      replace hx := Lib.hid hx
      clear hta hG hrd hdis hkt hkl hcon hdmem hdis0 hdlt hlines hG1 hG0
      go_wp2_with fail
      refine hx.out.mono ?_
      rintro e w' ⟨v, rfl, hp⟩
      replace hp := Lib.hid hp
      go_wp2_with fail
      exact hp.out
end Go.Proofs.Ytikjpklbbjmioaa
