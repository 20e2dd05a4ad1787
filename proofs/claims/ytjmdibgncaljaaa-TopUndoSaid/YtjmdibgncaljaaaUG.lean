/- Walks: the program of some stores. -/
import Derived.Test.YtjmdibgncaljaaaUF
import Derived.Laws.OwnMore
namespace Go.Proofs.Ytjmdibgncaljaaa
open Go.RowKit Dev
theorem start_any (off : Nat) (ho : off < 18446744073709551616) (w : World) : Calls Try.prog 98 #[.int .u64 (off : Int)] w (RS w (.int .u64 ((off / 64 * 64 : Nat) : Int))) := by
  have e : (off : Int) - (off : Int) % 64 = ((off / 64 * 64 : Nat) : Int) := by omega
  go_enter Try.func98, Try.ntmps98
  go_wp2_with fail
  go_ret
  exact ⟨by simp [e], rfl⟩
theorem umake0 {P : Program} (t e : TypeId) (z : Value) (bytes : Nat) (ht : P.underlying t = some (.slice e)) (hi : (P.info? e).map (fun i => (i.zero, i.size, i.bytes)) = some (some z, 1, bytes)) (hz : z.cells = #[z])
    (n : Nat) (hb : n * bytes ≤ 281474976710656) (hn : n ≤ 9223372036854775807) (w : World) :
    (Instr.makeSlice t (.int .i64 0) (.int .i64 n)).run P w = .ok (.slice (some ⟨w.heap.size, 0, none⟩) 0 n) (w.alloc (.cells (Array.replicate n z) e)) := by
  obtain ⟨i, h1, h2, h3, h4⟩ := info_parts hi
  have hb' : (i.bytes : Int) * (n : Int) ≤ 281474976710656 := by
    have h : ((i.bytes * n : Nat) : Int) ≤ 281474976710656 := by rw [h4, Nat.mul_comm]; omega
    rwa [Int.natCast_mul] at h
  have := run_make (P := P) w t e i z ht h1 h2 .i64 .i64 0 n (Int.le_refl _) (by omega) hb' (by omega)
  simp only [Int.toNat_natCast, h3, Nat.mul_one, hz] at this
  rw [this]
  have e : madeCells #[z] n = Array.replicate n z := by
    apply Array.ext'
    rw [toList_madeCells_one, Array.toList_replicate]
  rw [e]; rfl

/-- An append to a slice that has the room: it stays where it is. -/
theorem wpList_fit {P : Program} {w : World} {ops : Array Oper} {rest : List Oper} {o : Oper} {a : Act} {Q : Exit → Act → World → Prop} (hgd : o.guard = none) (s x : Operand) (t : TypeId)
    (ho : o.op = .call { callee := .builtin .append, args := #[s, x], argTypes := #[t, t] })
    (e : TypeId) (z : Value) (size bytes : Nat) (ht : P.underlying t = some (.slice e))
    (hi : (P.info? e).map (fun i => (i.zero, i.size, i.bytes)) = some (some z, size, bytes))
    (g n cap : Nat) (xs : List Value) (hown : w.ownsRow 0 e size (.slice (some ⟨g, 0, none⟩) n cap) n xs) (hs : a.eval s = .slice (some ⟨g, 0, none⟩) n cap)
    (ad : Addr) (m c : Nat) (news : List Value) (hx : a.eval x = .slice (some ad) m c) (hl : news.length = m * size) (hnews : ∀ j u, news[j]? = some u → w.cell? (ad.add j) = some u) (h1 : ∀ u ∈ news, u.oneCell' = true)
    (hroom : n + m ≤ cap)
    (h : ∀ w', w'.ownsRow 0 e size (.slice (some ⟨g, 0, none⟩) (n + m) cap) (n + m) (xs ++ news) → Only (fun k => k = g) w w' → wpList P ops Q rest (a.put o.dst (.slice (some ⟨g, 0, none⟩) (n + m) cap)) w') :
    wpList P ops Q (o :: rest) a w := by
  refine wpList_plain hgd fun K hK => ?_
  obtain ⟨i, i1, i2, i3, i4⟩ := info_parts hi
  obtain ⟨w', hr, h2, h3⟩ := run_append_fits (P := P) (w := w) 0 t o.type e i size ht i1 i3 g n cap xs hown ad m c news hl hnews h1 hroom
  unfold Oper.wp execOp
  simp only [ho, resolve, invoke, builtin, Sem.run_bind, Sem.run_pure, Result.andThen_ok, List.map_toArray, List.map_cons, List.map_nil, hs, hx, hr]
  exact hK _ _ (h w' h2 ((Only.of_grown h3).mono fun k _ e => by simpa using e))
/-- The program so far, in a slice of its own that is no block up to the first new one. -/
structure PgO (w : World) (ps : List In) (n : Nat) (oa : Option Addr) (oc : Nat) (wr : World) : Prop where
  ln : ps.length = n
  o : wr.ownsRow 0 85 3 (.slice oa n oc) n (inCells ps)
  ob : ∀ k, Value.ownBlock (.slice oa n oc) = some k → w.heap.size + 1 ≤ k
  b : Below w.heap.size w wr
theorem PgO.below {w wr wr2 : World} {es : List In} {n : Nat} {oa : Option Addr} {oc : Nat} (h : PgO w es n oa oc wr) (hb : Below wr.heap.size wr wr2) : PgO w es n oa oc wr2 :=
  ⟨h.ln, ownsRow_only h.o (Only.of_below hb) (fun k hk e => by have := ownsRow_lt h.o hk; omega), h.ob, h.b.trans (hb.mono h.b.size)⟩
theorem PgO.line {w wr wr2 : World} {es : List In} {n : Nat} {oa : Option Addr} {oc : Nat} (h : PgO w es n oa oc wr) (ho : Only (fun k => k = w.heap.size) wr wr2) : PgO w es n oa oc wr2 :=
  ⟨h.ln, ownsRow_only h.o ho (fun k hk e => by have := h.ob k hk; omega), h.ob, h.b.trans (ho.below (B := w.heap.size) h.b.size (fun k _ e => by omega))⟩
theorem PgO.app {w w1 w2 : World} {es : List In} {e : In} {n : Nat} {oa oa' : Option Addr} {oc oc' : Nat} (h : PgO w es n oa oc w1) (hlt : w.heap.size < w1.heap.size)
    (own2 : w2.ownsRow 0 85 3 (.slice oa' (n + 1) oc') (n + 1) (inCells es ++ e.cells)) (only2 : Only (fun k => Value.ownBlock (.slice oa n oc) = some k) w1 w2)
    (fresh2 : ∀ k, Value.ownBlock (.slice oa' (n + 1) oc') = some k → Value.ownBlock (.slice oa n oc) = some k ∨ w1.heap.size ≤ k) : PgO w (es ++ [e]) (n + 1) oa' oc' w2 := by
  have hs := h.b.size
  refine ⟨by rw [List.length_append, List.length_singleton, h.ln], by rw [inCells_snoc]; exact own2, fun k hk => ?_, h.b.trans (only2.below (B := w.heap.size) hs (fun k _ e => by have := h.ob k e; omega))⟩
  rcases fresh2 k hk with h1 | h1
  · exact h.ob k h1
  · omega
/-- The program that Stores gives: none for no stores. -/
def storesL (ws : List (Nat × Nat)) (fl : List Nat) : List In := if ws = [] then [] else storesI ws fl
def StoP (w : World) (ws : List (Nat × Nat)) (e : Ending) (w' : World) : Prop := ∃ (oa : Option Addr) (oc : Nat) (fl : List Nat), e = .returned (.slice oa (storesL ws fl).length oc) ∧ (∀ y, y ∈ fl ↔ y ∈ ws.map fun p => p.1 / 64 * 64) ∧ fl.length ≤ ws.length ∧
  Rd w' (.slice oa (storesL ws fl).length oc) (storesL ws fl).length (inCells (storesL ws fl)) ∧ Below w.heap.size w w' ∧ (storesL ws fl).length ≤ oc
theorem own_cap {w : World} {T : TypeId} {size n oc : Nat} {oa : Option Addr} {xs : List Value} (h : w.ownsRow 0 T size (.slice oa n oc) n xs) : n ≤ oc := by
  rcases h.2 with ⟨h1, h0⟩ | ⟨g, cap, cur, hv, hc, _⟩
  · omega
  · simp only [Value.slice.injEq, true_and] at hv
    omega
def lnS (ws : List (Nat × Nat)) : List Nat := ws.map fun p => p.1 / 64 * 64
theorem own_full {w : World} {b n : Nat} {xs : List Value} (h : w.ownsRow 0 27 1 (.slice (some ⟨b, 0, none⟩) n n) n xs) (hn : 0 < n) : Has w b xs 27 := by
  rcases h.2 with ⟨h1, _⟩ | ⟨g, cap, cur, hv, _, hg, _, _, hcs, ht⟩
  · simp at h1
  · simp only [Value.slice.injEq, Option.some.injEq, Addr.mk.injEq, and_true, true_and] at hv
    obtain ⟨rfl, rfl⟩ := hv
    have e : cur = xs.toArray := by
      apply Array.ext'
      rw [← ht, List.take_of_length_le]
      rw [Array.length_toList, hcs]; exact Nat.le_refl _
    subst e
    exact hg
set_option maxHeartbeats 8000000 in
set_option maxRecDepth 100000 in
theorem ustores_any (ws : List (Nat × Nat)) (hn12 : ws.length ≤ 12) (hv : ∀ p ∈ ws, p.1 < 18446744073709551616) (a : Option Addr) (c : Nat) (w : World) (hr : Rd w (.slice a ws.length c) ws.length (wcells ws)) :
    Calls Try.prog 67 #[.slice a ws.length c] w (StoP w ws) := by
  generalize hpost : StoP w ws = post
  by_cases h0 : ws.length = 0
  · have hw0 : ws = [] := List.length_eq_zero_iff.1 h0
    have hf : post (.returned (.slice none 0 0)) w := by
      rw [← hpost]
      refine ⟨none, 0, [], ?_, ?_, Nat.zero_le _, ?_, Below.refl _ _, ?_⟩
      · unfold storesL; rw [if_pos hw0]; rfl
      · rw [hw0]; simp
      · unfold storesL; rw [if_pos hw0]; exact ⟨none, 0, rfl, .inl ⟨rfl, rfl⟩⟩
      · unfold storesL; rw [if_pos hw0]; exact Nat.le_refl _
    replace hf := Lib.hid hf
    rw [h0]
    clear hpost hr hv h0 hw0
    go_enter Try.func67, Try.ntmps67
    go_wp2_with fail
    first | exact hf.out | (go_ret; exact hf.out)
  · have hfin : ∀ (m : Nat) (ps : List In) (oa : Option Addr) (oc : Nat) (fl : List Nat) w', ps.length = m → ps = storesI ws fl → (∀ y, y ∈ fl ↔ y ∈ lnS ws) → fl.length ≤ ws.length → PgO w ps m oa oc w' → post (.returned (.slice oa m oc)) w' := fun m ps oa oc fl w' h1 h2 h3 h4 h5 => by
      have e : storesL ws fl = ps := by unfold storesL; rw [if_neg (fun e => h0 (by rw [e]; rfl)), h2]
      rw [← hpost]
      refine ⟨oa, oc, fl, by rw [e, h1], h3, h4, ?_, h5.b, ?_⟩
      · rw [e, h1]
        exact Rd.of_own h5.o
      · rw [e, h1]; exact own_cap h5.o
    clear hpost
    have hget : ∀ k, k < ws.length → ∃ bl ol cl x y, Value.slice a ws.length c = .slice (some ⟨bl, ol, none⟩) ws.length cl ∧ ws[k]? = some (x, y) ∧ x < 18446744073709551616 ∧ ∀ wx, Below w.heap.size w wx → wx.cell? ⟨bl, ol + k * 2, none⟩ = some (.int .u64 (x : Int)) ∧ wx.cell? ⟨bl, ol + k * 2 + 1, none⟩ = some (.int .u64 (y : Int)) := fun k hk => by
      obtain ⟨bl, ol, cl, e1, h1⟩ := hr.cells (by omega)
      obtain ⟨⟨x, y⟩, hx⟩ : ∃ q, ws[k]? = some q := ⟨_, List.getElem?_eq_getElem hk⟩
      obtain ⟨g1, g2⟩ := wcells_get ws k _ hx
      have k1 := h1 _ _ g1
      have k2 := h1 _ _ g2
      rw [← Nat.add_assoc] at k2
      exact ⟨bl, ol, cl, x, y, e1, hx, hv _ (List.mem_of_getElem? hx), fun wx hb => ⟨(hb.cell (World.block_lt_of_cell? _ _ k1)).trans k1, (hb.cell (World.block_lt_of_cell? _ _ k2)).trans k2⟩⟩
    obtain ⟨n, hn⟩ : ∃ n, ws.length = n := ⟨_, rfl⟩
    rw [hn] at h0 hn12 hget hfin ⊢
    clear hr hv
    have hmk := umake0 (P := Try.prog) 70 27 (.int .u64 0) 8 Try.underlying70 infoU64 rfl n (by omega) (by omega) w
    obtain ⟨W1, hW1⟩ : ∃ W1, W1 = w.alloc (.cells (Array.replicate n (.int .u64 0)) 27) := ⟨_, rfl⟩
    have hb1 : Below w.heap.size w W1 := by rw [hW1]; exact (Below.refl _ _).alloc (Nat.le_refl _) _
    have hl1 : w.heap.size < W1.heap.size := by rw [hW1]; simp
    have ho1 : W1.ownsRow 0 27 1 (.slice (some ⟨w.heap.size, 0, none⟩) 0 n) 0 [] := by
      rw [hW1]
      exact ⟨rfl, .inr ⟨w.heap.size, n, Array.replicate n (.int .u64 0), rfl, Nat.zero_le _, heap_alloc_new, Nat.zero_le _, by unfold maxLen; omega, by simp, rfl⟩⟩
    have hst0 := Lib.hid (show PgO w [] 0 none 0 W1 ∧ W1.ownsRow 0 27 1 (.slice (some ⟨w.heap.size, 0, none⟩) 0 n) 0 (u64s []) ∧ w.heap.size < W1.heap.size from ⟨⟨rfl, ⟨rfl, .inl ⟨rfl, rfl⟩⟩, fun k hk => (by cases hk), hb1⟩, ho1, hl1⟩)
    rw [← hW1] at hmk
    clear hW1 hb1 hl1 ho1
    have e0 : ((n : Int) == 0) = false := by simp; omega
    replace hfin := Lib.hid hfin
    replace hget := Lib.hid hget
    replace hn := Lib.hid hn
    have hstart := Lib.hid (fun off ho wx => start_any off ho wx)
    go_enter Try.func67, Try.ntmps67
    go_wp2_with fail
    go_loopw [3, 4, 17] (fun s3 s4 s17 wr => ∃ (k : Nat) (oa : Option Addr) (oc : Nat), k ≤ n ∧ s17 = .int .i64 (k : Int) ∧ s3 = .slice oa k oc ∧ s4 = .slice (some ⟨w.heap.size, 0, none⟩) k n ∧ PgO w ((ws.take k).map stI) k oa oc wr ∧ wr.ownsRow 0 27 1 (.slice (some ⟨w.heap.size, 0, none⟩) k n) k (u64s (lnS (ws.take k))) ∧ w.heap.size < wr.heap.size) (fun _ _ s17 _ => n - (RowKit.intOf s17).toNat)
    case atStart => exact ⟨0, none, 0, by omega, rfl, rfl, rfl, hst0.out⟩
    case round =>
      clear hst0 hmk
      obtain ⟨k, oa, oc, hk, rfl, rfl, rfl, hP, hL, hlt1⟩ := hrel
      by_cases hlt : ¬ (k < n)
      · have hkn : k = n := by omega
        subst hkn
        rw [List.take_of_length_le (Nat.le_of_eq hn.out)] at hP hL
        have hH := own_full hL (by omega)
        have hLl : (lnS ws).length = k := by unfold lnS; rw [List.length_map]; exact hn.out
        obtain ⟨LS, hLS⟩ : ∃ LS, lnS ws = LS := ⟨_, rfl⟩
        rw [hLS] at hH hfin hLl
        have hsort := usort_any w.heap.size k LS (by omega) wr hH
        rw [hLl] at hsort
        have kd : decide ((k : Int) < (k : Int)) = false := decide_eq_false (by omega)
        have kk1 : ¬ (k : Int) < (k : Int) := by omega
        obtain ⟨PS, hPS⟩ : ∃ PS, ws.map stI = PS := ⟨_, rfl⟩
        rw [hPS] at hP
        replace hPS := Lib.hid hPS
        replace hP := Lib.hid hP
        replace hsort := Lib.hid hsort
        replace hLl := Lib.hid hLl
        clear hL hH
        go_wp2_with fail
        refine hsort.out.mono ?_
        rintro e w3 ⟨zs, rfl, hmx, hZ, hO3⟩
        have hzl : zs.length = k := hmx.l.trans hLl.out
        have hO3s := Lib.hid (show w.heap.size < w3.heap.size from by have := hO3.size; omega)
        replace hmx := Lib.hid hmx
        have hcmp := ucompact_any w.heap.size k zs (by omega) (by omega) w3 hZ
        rw [hzl] at hcmp
        have hP3 := Lib.hid (hP.out.line hO3)
        replace hcmp := Lib.hid hcmp
        clear hZ hO3 hsort hP
        go_wp2_with fail
        refine hcmp.out.mono ?_
        rintro e w4 ⟨cs, rfl, hcm, hcl, hcr, hO4⟩
        have hP4 := Lib.hid (hP3.out.line hO4)
        obtain ⟨m, hm⟩ : ∃ m, cs.length = m := ⟨_, rfl⟩
        rw [hm] at hcr hcl ⊢
        have hlt4 : w.heap.size < w4.heap.size := by have := hO4.size; have := hO3s.out; omega
        have hst2 := Lib.hid (show PgO w (PS ++ (cs.take 0).map flI) (k + 0) oa oc w4 ∧ Rd w4 (.slice (some ⟨w.heap.size, 0, none⟩) m k) m (u64s cs) ∧ w.heap.size < w4.heap.size from ⟨by rw [List.take_zero, List.map_nil, List.append_nil]; exact hP4.out, hcr, hlt4⟩)
        have hcmz : ∀ y, y ∈ cs ↔ y ∈ LS := fun y => (hcm y).trans (hmx.out.m y)
        replace hcmz := Lib.hid hcmz
        replace hm := Lib.hid hm
        clear hP4 hcr hO4 hcmp hP3 hcm hlt4
        go_wp2_with fail
        go_loopw [3, 41] (fun s3 s41 wr => ∃ (j : Nat) (oa : Option Addr) (oc : Nat), j ≤ m ∧ s41 = .int .i64 (j : Int) ∧ s3 = .slice oa (k + j) oc ∧ PgO w (PS ++ (cs.take j).map flI) (k + j) oa oc wr ∧ Rd wr (.slice (some ⟨w.heap.size, 0, none⟩) m k) m (u64s cs) ∧ w.heap.size < wr.heap.size) (fun _ s41 _ => m - (RowKit.intOf s41).toNat)
        case atStart => exact ⟨0, oa, oc, by omega, rfl, rfl, hst2.out⟩
        case round =>
          clear hst2
          obtain ⟨j, oa, oc, hj, rfl, rfl, hP, hC, hlt5⟩ := hrel
          by_cases hltj : ¬ (j < m)
          · have hjm : j = m := by omega
            subst hjm
            have kd2 : decide ((j : Int) < (j : Int)) = false := decide_eq_false (by omega)
            have kk2 : ¬ (j : Int) < (j : Int) := by omega
            rw [List.take_of_length_le (Nat.le_of_eq hm.out)] at hP
            obtain ⟨QS, hQS⟩ : ∃ QS, PS ++ cs.map flI = QS := ⟨_, rfl⟩
            rw [hQS] at hP
            have hb3 := (Below.refl wr.heap.size wr).alloc (Nat.le_refl _) (.cells #[.int .u8 3, .int .u64 0, .int .u64 0] 85)
            have hP3 := hP.below hb3
            have hN3 := Has.new wr [.int .u8 3, .int .u64 0, .int .u64 0] 85
            have ho3 := hP3.o
            have hby3 : (k + j + 1) * 24 ≤ 140737488355328 := by omega
            replace hP3 := Lib.hid hP3
            replace hQS := Lib.hid hQS
            clear hP hC hb3
            go_wp2_with (at_builtin; refine wpList_app rfl (.tmp 51) (.tmp 53) 79 rfl 85 (.agg #[.int .u8 0, .int .u64 0, .int .u64 0]) 3 24 Try.underlying79 infoIn rfl (by decide) (by decide) oa (k + j) oc (inCells QS) (by exact ho3) rfl _ 1 1 [.int .u8 3, .int .u64 0, .int .u64 0] rfl rfl (by exact newsIn hN3) (by simp [Value.oneCell']) (by exact hby3) ?_)
            intro oa' oc' w6 own6 only6 fresh6
            have hP6 := hP3.out.app (e := feI) (by simp; omega) own6 only6 (fun q hq => by have := fresh6 q hq; simpa using this)
            have hf := Lib.hid (hfin.out (k + j + 1) (QS ++ [feI]) oa' oc' cs w6 hP6.ln (by rw [← hQS.out, ← hPS.out]; rfl) hcmz.out (by rw [hm.out]; omega) hP6)
            clear own6 only6 fresh6 ho3 hN3 hP6
            go_wp2_with fail
            first | exact hf.out | (go_ret; exact hf.out)
          · replace hltj := Classical.not_not.1 hltj
            have kd2 : decide ((j : Int) < (m : Int)) = true := decide_eq_true (by omega)
            have kk2 : (j : Int) < (m : Int) := by omega
            have jw := Lib.hid (show wrap64 ((j : Int) + 1) = ((j + 1 : Nat) : Int) from by unfold wrap64; omega)
            obtain ⟨y, hy⟩ : ∃ y, cs[j]? = some y := ⟨_, List.getElem?_eq_getElem (by have := hm.out; omega)⟩
            have cj : wr.cell? ⟨w.heap.size, j, none⟩ = some (.int .u64 (y : Int)) := by
              obtain ⟨bl, ol, cl, e1, h1⟩ := hC.cells (by omega)
              simp only [Value.slice.injEq, Option.some.injEq, Addr.mk.injEq, and_true, true_and] at e1
              obtain ⟨⟨rfl, rfl⟩, _⟩ := e1
              have := h1 j _ (u64s_get _ _ _ hy)
              rwa [Nat.zero_add] at this
            obtain ⟨QS, hQS⟩ : ∃ QS, PS ++ (cs.take j).map flI = QS := ⟨_, rfl⟩
            rw [hQS] at hP
            have htj : PS ++ (cs.take (j + 1)).map flI = QS ++ [flI y] := by rw [List.take_add_one, hy, ← hQS]; simp
            have hb3 := (Below.refl wr.heap.size wr).alloc (Nat.le_refl _) (.cells #[.int .u8 2, .int .u64 (y : Int), .int .u64 0] 85)
            have hP3 := hP.below hb3
            have hC3 := hC.kept hb3
            have hN3 := Has.new wr [.int .u8 2, .int .u64 (y : Int), .int .u64 0] 85
            have ho3 := hP3.o
            have hby3 : (k + j + 1) * 24 ≤ 140737488355328 := by omega
            have hobP := hP.ob
            replace hP3 := Lib.hid hP3
            replace hC3 := Lib.hid hC3
            replace htj := Lib.hid htj
            replace hobP := Lib.hid hobP
            clear hP hC hb3 hQS hy
            go_wp2_with (at_builtin; refine wpList_app rfl (.tmp 45) (.tmp 48) 79 rfl 85 (.agg #[.int .u8 0, .int .u64 0, .int .u64 0]) 3 24 Try.underlying79 infoIn rfl (by decide) (by decide) oa (k + j) oc (inCells QS) (by exact ho3) rfl _ 1 1 [.int .u8 2, .int .u64 (y : Int), .int .u64 0] rfl rfl (by exact newsIn hN3) (by simp [Value.oneCell']) (by exact hby3) ?_)
            intro oa' oc' w6 own6 only6 fresh6
            have hrel6 := Lib.hid (show PgO w (PS ++ (cs.take (j + 1)).map flI) (k + (j + 1)) oa' oc' w6 ∧ Rd w6 (.slice (some ⟨w.heap.size, 0, none⟩) m k) m (u64s cs) ∧ w.heap.size < w6.heap.size from
              ⟨by rw [htj.out]; exact hP3.out.app (e := flI y) (by simp; omega) own6 only6 (fun q hq => by have := fresh6 q hq; simpa using this), hC3.out.only only6 (fun q hq e => by
                have h1 := hobP.out _ e
                have h2 : w.heap.size = q := by simpa [Value.ownBlock] using hq
                omega), by have := only6.size; simp at this; omega⟩)
            clear own6 only6 fresh6 ho3 hN3 cj
            go_wp2_with fail
            first | rw [jw.out] | skip
            go_roundw
            case rel => exact ⟨j + 1, oa', oc', by omega, rfl, rfl, hrel6.out⟩
            case measure => simp [RowKit.intOf]; try omega
      · replace hlt := Classical.not_not.1 hlt
        have kd : decide ((k : Int) < (n : Int)) = true := decide_eq_true (by omega)
        have k1 : (k : Int) < (n : Int) := by omega
        have kw := Lib.hid (show wrap64 ((k : Int) + 1) = ((k + 1 : Nat) : Int) from by unfold wrap64; omega)
        obtain ⟨bl, ol, cl, x, y, e1, hx, hx2, hc⟩ := hget.out k hlt
        simp only [Value.slice.injEq, true_and] at e1
        obtain ⟨rfl, rfl⟩ := e1
        obtain ⟨c0, c1⟩ := hc wr hP.b
        obtain ⟨PS, hPS⟩ : ∃ PS, (ws.take k).map stI = PS := ⟨_, rfl⟩
        obtain ⟨LS, hLS⟩ : ∃ LS, lnS (ws.take k) = LS := ⟨_, rfl⟩
        rw [hPS] at hP
        rw [hLS] at hL
        replace hPS := Lib.hid hPS
        replace hLS := Lib.hid hLS
        have hB2 : Below wr.heap.size wr (wr.alloc (.cells #[.int .u64 (x : Int), .int .u64 (y : Int)] 133)) := (Below.refl _ _).alloc (Nat.le_refl _) _
        have hB3 := hB2.alloc (by simp) (.cells #[.int .u8 1, .int .u64 (x : Int), .int .u64 (y : Int)] 85)
        have hP3 := hP.below hB3
        have hL3 := ownsRow_only hL (Only.of_below hB3) (fun j hj e => by have := ownsRow_lt hL hj; omega)
        have hX3 := (Has.new wr [.int .u64 (x : Int), .int .u64 (y : Int)] 133).alloc (.cells #[.int .u8 1, .int .u64 (x : Int), .int .u64 (y : Int)] 85)
        have hN3 := Has.new (wr.alloc (.cells #[.int .u64 (x : Int), .int .u64 (y : Int)] 133)) [.int .u8 1, .int .u64 (x : Int), .int .u64 (y : Int)] 85
        simp only [World.size_alloc] at hN3
        have ho3 := hP3.o
        have hby3 : (k + 1) * 24 ≤ 140737488355328 := by omega
        have hlP : ∀ j, Value.ownBlock (.slice oa k oc) = some j → w.heap.size + 1 ≤ j ∧ j < wr.heap.size := fun j hj => ⟨hP.ob j hj, ownsRow_lt hP.o hj⟩
        have htk : ws.take (k + 1) = ws.take k ++ [(x, y)] := by rw [List.take_add_one, hx]; rfl
        replace hP3 := Lib.hid hP3
        replace hL3 := Lib.hid hL3
        replace hX3 := Lib.hid hX3
        replace hlP := Lib.hid hlP
        replace htk := Lib.hid htk
        replace hc := Lib.hid hc
        clear hP hL hB2 hB3
        go_wp2_with (at_builtin; refine wpList_app rfl (.tmp 21) (.tmp 27) 79 rfl 85 (.agg #[.int .u8 0, .int .u64 0, .int .u64 0]) 3 24 Try.underlying79 infoIn rfl (by decide) (by decide) oa k oc (inCells PS) (by exact ho3) rfl _ 1 1 [.int .u8 1, .int .u64 (x : Int), .int .u64 (y : Int)] rfl rfl (by exact newsIn hN3) (by simp [Value.oneCell']) (by exact hby3) ?_)
        intro oa' oc' w2 own2 only2 fresh2
        have hP4 : PgO w ((ws.take (k + 1)).map stI) (k + 1) oa' oc' w2 := by
          rw [htk.out, List.map_append, hPS.out]
          exact hP3.out.app (e := stI (x, y)) (by simp; omega) own2 only2 (fun j hj => by have := fresh2 j hj; simpa using this)
        have hX4 := hX3.out.only only2 (fun e => by have := (hlP.out _ e).2; omega)
        have hL4 := ownsRow_only hL3.out only2 (fun j hj e => by
          have h1 := (hlP.out _ e).1
          have h2 : w.heap.size = j := by simpa [Value.ownBlock] using hj
          omega)
        have hlt4 : w.heap.size < w2.heap.size := by have := only2.size; simp at this; omega
        have hfr4 : ∀ j, Value.ownBlock (.slice oa' (k + 1) oc') = some j → w.heap.size + 1 ≤ j := hP4.ob
        clear own2 only2 fresh2 ho3 hN3
        have x0 := hX4.cell (o := 0) rfl
        have hst := Lib.hid (hstart.out x hx2 w2)
        replace hP4 := Lib.hid hP4
        replace hL4 := Lib.hid hL4
        go_wp2_with fail
        refine hst.out.mono ?_
        rintro e w' ⟨rfl, rfl⟩
        have hL5 := hL4.out.alloc (.cells #[.int .u64 ((x / 64 * 64 : Nat) : Int)] 27)
        have hN5 := Has.new w2 [.int .u64 ((x / 64 * 64 : Nat) : Int)] 27
        have hP5 := hP4.out.below ((Below.refl w2.heap.size w2).alloc (Nat.le_refl _) (.cells #[.int .u64 ((x / 64 * 64 : Nat) : Int)] 27))
        obtain ⟨x6, hx6⟩ : ∃ x6, x / 64 * 64 = x6 := ⟨_, rfl⟩
        rw [hx6] at hL5 hN5 hP5 ⊢
        replace hP5 := Lib.hid hP5
        clear hst x0 hX4
        go_wp2_with (at_builtin; refine wpList_fit rfl (.tmp 29) (.tmp 33) 70 rfl 27 (.int .u64 0) 1 8 Try.underlying70 infoU64 w.heap.size k n (u64s LS) (by exact hL5) rfl _ 1 1 [.int .u64 (x6 : Int)] rfl rfl (by exact newsIn hN5) (by simp [Value.oneCell']) (by omega) ?_)
        intro w6 own6 only6
        have hrel6 := Lib.hid (show PgO w ((ws.take (k + 1)).map stI) (k + 1) oa' oc' w6 ∧ w6.ownsRow 0 27 1 (.slice (some ⟨w.heap.size, 0, none⟩) (k + 1) n) (k + 1) (u64s (lnS (ws.take (k + 1)))) ∧ w.heap.size < w6.heap.size from
          ⟨hP5.out.line only6, by
            have e : u64s (lnS (ws.take (k + 1))) = u64s LS ++ [.int .u64 (x6 : Int)] := by
              have h := hLS.out
              unfold lnS at h ⊢
              rw [htk.out, List.map_append, h]
              unfold u64s
              rw [List.map_append]
              simp only [List.map_cons, List.map_nil, hx6]
            rw [e]
            exact own6, by have := only6.size; simp at this; omega⟩)
        clear own6 only6 hL5 hN5
        go_wp2_with fail
        first | rw [kw.out] | skip
        go_roundw
        case rel => exact ⟨k + 1, oa', oc', by omega, rfl, rfl, rfl, hrel6.out⟩
        case measure => simp [RowKit.intOf]; try omega
end Go.Proofs.Ytjmdibgncaljaaa
