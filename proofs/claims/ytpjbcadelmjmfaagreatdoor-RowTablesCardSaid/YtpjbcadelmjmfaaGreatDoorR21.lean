/- The walk of RowTables. -/
import Derived.Test.YtpjbcadelmjmfaaGreatDoorR20
import Derived.Test.YtpjbcadelmjmfaaGreatDoorR17
import Derived.Test.YtpjbcadelmjmfaaGreatDoorR4
namespace Go.Proofs.YtpjbcadelmjmfaaGreatDoor
open Go.RowKit Go.Lib

theorem TabOk.since {cs : List CV} (h : TabOk cs) {c : CV} {r : List CV} (e : cs = c :: r) : TabOk ({ c with sc := 2 } :: r) := by
  subst e
  have key : ∀ k, (({ c with sc := 2 } :: r : List CV).getD k CV0).nm = ((c :: r).getD k CV0).nm ∧ (({ c with sc := 2 } :: r : List CV).getD k CV0).ty = ((c :: r).getD k CV0).ty ∧ (({ c with sc := 2 } :: r : List CV).getD k CV0).nl = ((c :: r).getD k CV0).nl ∧ (({ c with sc := 2 } :: r : List CV).getD k CV0).df = ((c :: r).getD k CV0).df := by
    intro k
    cases k <;> exact ⟨rfl, rfl, rfl, rfl⟩
  refine ⟨h.len, fun k hk => ?_, fun k hk => ?_, fun k hk => ?_⟩
  · rw [(key k).1]; exact h.nm k hk
  · have := h.df k hk
    unfold FindIs at this ⊢
    simp only [(key _).1]
    exact this
  · rw [(key k).2.1, (key k).2.2.1, (key k).2.2.2]; exact h.fit k hk
theorem cc_set {c : CV} {r : List CV} : cCells ({ c with sc := 2 } :: r) = (cCells (c :: r)).set 3 (.int .i64 2) := rfl
set_option maxHeartbeats 8000000 in
set_option maxRecDepth 100000 in
theorem tables_walk (l : List LC) (hf : ∀ c ∈ l, c.t < 256 ∧ c.d.ty < 256 ∧ c.d.tx.size ≤ 9223372036854775807) (hll : l.length ≤ 9223372036854775807) (a : Option Addr) (cap : Nat)
    (r : List RV) (hrl : r.length ≤ 9223372036854775807) (ra : Option Addr) (rc : Nat) (pa : Option Addr) (pn pc : Nat) (how : Nat) (hhow : how < 256) (w : World) (hE : Env w)
    (hr : Rd w (.slice a l.length cap) l.length (lCells l)) (hrr : Rd w (.slice ra r.length rc) r.length (vCells r)) :
    Calls Tryz.prog 9 #[.slice a l.length cap, .slice ra r.length rc, .agg #[.slice pa pn pc, .int .u8 (how : Int)]] w (fun e w' => e = .returned (.bool true) ∧ Below w.heap.size w w') := by
  obtain ⟨W, hW⟩ : ∃ W, W = w.alloc (.cells #[.slice pa pn pc, .int .u8 (how : Int)] 76) := ⟨_, rfl⟩
  have hX : Has W w.heap.size [.slice pa pn pc, .int .u8 (how : Int)] 76 := by rw [hW]; exact Has.new w _ _
  have hBW : Below w.heap.size w W := by rw [hW]; exact (Below.refl _ _).alloc (Nat.le_refl _) _
  have hEW := hE.below hBW
  have aw := fun w' (hb : Below W.heap.size W w') => awake_any w' (hEW.below hb)
  have gr := fun w' (hb : Below W.heap.size W w') => great_any r ra rc w' ((hrr.kept hBW).kept hb) hrl
  have tb := fun w' (hb : Below W.heap.size W w') => table_any l hf hll a cap w' ((hr.kept hBW).kept hb)
  obtain ⟨n, hn⟩ : ∃ n, n = min l.length 8 := ⟨_, rfl⟩
  have hg := fun h0 => tab_good l n h0 (by omega) (fun c hc => (hf c hc).2.2)
  have hct := colsTo_len l n
  unfold TablePost at tb
  rw [← hn] at tb
  generalize colsTo l n = cs at *
  generalize verAt l n = ver at *
  obtain ⟨m, hm⟩ : ∃ m, m = l.length := ⟨_, rfl⟩
  obtain ⟨rl, hrl2⟩ : ∃ m, m = r.length := ⟨_, rfl⟩
  rw [← hm] at tb hn ⊢
  rw [← hrl2] at gr ⊢
  generalize greatP r = g at *
  replace hW := Lib.hid hW
  replace aw := Lib.hid aw
  replace gr := Lib.hid gr
  replace tb := Lib.hid tb
  replace hm := Lib.hid hm
  replace hrl2 := Lib.hid hrl2
  replace hBW := Lib.hid hBW
  replace hg := Lib.hid hg
  clear hr hrr hE
  go_enter Tryz.func9, Tryz.ntmps9
  go_upto_region 1 with fail
  rw [← hW.out]
  go_wp2_with fail
  refine (aw.out W (Below.refl _ _)).mono ?_
  rintro e w1 ⟨rfl, hb1⟩
  replace hb1 := Lib.hid hb1
  go_wp2_with fail
  refine (gr.out w1 hb1.out).mono ?_
  rintro e w2 ⟨rfl, hb12⟩
  have hb2 := hb1.out.trans (hb12.mono hb1.out.size)
  clear hb12 gr
  have early : ∀ w3, Below W.heap.size W w3 → Below w.heap.size w w3 := fun w3 hb => hBW.out.trans (hb.mono hBW.out.size)
  replace early := Lib.hid early
  cases g with
  | true =>
    replace hb2 := Lib.hid hb2
    go_wp2_with fail
    refine (aw.out w2 hb2.out).mono ?_
    rintro e w3 ⟨rfl, hb23⟩
    have hff := early.out w3 (hb2.out.trans (hb23.mono hb2.out.size))
    replace hff := Lib.hid hff
    clear hb23
    go_wp2_with fail
    go_ret
    exact ⟨rfl, hff.out⟩
  | false =>
    by_cases hm0 : m = 0
    · have d0 : ((m : Int) == 0) = true := by rw [beq_iff_eq]; omega
      replace hb2 := Lib.hid hb2
      replace hm0 := Lib.hid hm0
      go_wp2_with fail
      refine (aw.out w2 hb2.out).mono ?_
      rintro e w3 ⟨rfl, hb23⟩
      have hff := early.out w3 (hb2.out.trans (hb23.mono hb2.out.size))
      replace hff := Lib.hid hff
      clear hb23
      go_wp2_with fail
      go_ret
      exact ⟨rfl, hff.out⟩
    · have d0 : ((m : Int) == 0) = false := by rw [beq_eq_false_iff_ne]; omega
      have hn0 : 0 < n := by omega
      have hG := hg.out hn0
      replace hb2 := Lib.hid hb2
      replace hm0 := Lib.hid hm0
      replace hn := Lib.hid hn
      clear hg
      go_wp2_with fail
      refine (tb.out w2 hb2.out).mono ?_
      rintro e w3 ⟨sa, sc, rfl, hR⟩
      have hb3 := hb2.out.trans (hR.b.mono hb2.out.size)
      clear tb aw hb1
      have hX3 := hX.only (Only.of_below hb3) (Nat.not_le.2 hX.lt)
      obtain ⟨W4, hW4⟩ : ∃ W4, W4 = w3.alloc (.cells #[.string tagS, .int .i64 (ver : Int), .slice sa n sc, .slice none 0 0, .int .u64 0, .int .u64 0] 32) := ⟨_, rfl⟩
      have hT : Has W4 w3.heap.size [.string tagS, .int .i64 (ver : Int), .slice sa n sc, .slice none 0 0, .int .u64 0, .int .u64 0] 32 := by rw [hW4]; exact Has.new _ _ _
      have hb34 : Below w3.heap.size w3 W4 := by rw [hW4]; exact (Below.refl _ _).alloc (Nat.le_refl _) _
      have hb4 := hb3.trans (hb34.mono hb3.size)
      have hR4 := hR.below hb34
      have hX4 := hX3.only (Only.of_below hb34) (Nat.not_le.2 hX3.lt)
      have hxw : w.heap.size < W.heap.size := hX.lt
      have hw23 := hR.b.size
      have hWw2 := hb2.out.size
      have hE4 := hEW.below hb4
      obtain ⟨cg, hsa, hcg⟩ : ∃ cg, sa = some ⟨cg, 0, none⟩ ∧ w2.heap.size ≤ cg := by
        rcases hR4.o.2 with ⟨_, h0⟩ | ⟨g, cap, cur, hv, _⟩
        · omega
        · simp only [Value.slice.injEq, true_and] at hv
          exact ⟨g, hv.1, hR4.ob g (by rw [hv.1]; rfl)⟩
      subst hsa
      have hcg3 : cg < w3.heap.size := ownsRow_lt hR.o rfl
      have hxh := hX4.cell (o := 1) rfl
      have t0 := hT.cell (o := 0) rfl
      have t1 := hT.cell (o := 1) rfl
      have t2 := hT.cell (o := 2) rfl
      have t3 := hT.cell (o := 3) rfl
      have t4 := hT.cell (o := 4) rfl
      have t5 := hT.cell (o := 5) rfl
      have f0 := hT.free 0
      have f1 := hT.free 1
      have f2 := hT.free 2
      have f3 := hT.free 3
      have f4 := hT.free 4
      have f5 := hT.free 5
      replace hW4 := Lib.hid hW4
      go_upto_region 4 with fail
      rw [← hW4.out]
      go_upto_block 0 with fail
      go_cut [30] (fun p wx => ∃ (tn : ByteArray) (v2 : Int) (c2 : Option Addr) (n2 s2 : Nat), Has wx w3.heap.size [.string tn, .int .i64 v2, .slice c2 n2 s2, .slice none 0 0, .int .u64 0, .int .u64 0] 32 ∧ Refused wx tn v2 c2 n2 s2 ∧ Below W.heap.size W wx ∧ Has wx w.heap.size [.slice pa pn pc, .int .u8 (how : Int)] 76)
      case first =>
        have hq : how % 4 = 0 ∨ how % 4 = 1 ∨ how % 4 = 2 ∨ how % 4 = 3 := by omega
        have hsT := fun (o : Nat) (v : Value) => hb4.setCell (p := ⟨w3.heap.size, o, none⟩) (by show W.heap.size ≤ w3.heap.size; omega) v
        have hxT := fun (o : Nat) (v : Value) => hX4.set_ne (a := ⟨w3.heap.size, o, none⟩) (by show w.heap.size ≠ w3.heap.size; omega) v
        rcases hq with hq | hq | hq | hq
        · have hI : (how : Int) % 4 = 0 := by omega
          have hfin : Has (W4.setCell ⟨w3.heap.size, 0, none⟩ (.string ⟨#[57]⟩)) w3.heap.size [.string ⟨#[57]⟩, .int .i64 (ver : Int), .slice (some ⟨cg, 0, none⟩) n sc, .slice none 0 0, .int .u64 0, .int .u64 0] 32 ∧ Refused (W4.setCell ⟨w3.heap.size, 0, none⟩ (.string ⟨#[57]⟩)) ⟨#[57]⟩ ver (some ⟨cg, 0, none⟩) n sc := ⟨hT.set 0 _, 15, by omega, fun w' _ => tabvalid_nine _ _ _ _ w'⟩
          have h1 := hsT 0 (.string ⟨#[57]⟩)
          have h2 := hxT 0 (.string ⟨#[57]⟩)
          replace hfin := Lib.hid hfin
          replace h1 := Lib.hid h1
          replace h2 := Lib.hid h2
          replace hq := Lib.hid hq
          clear hsT hxT hT hR hR4 hX3 hX4 hb4 hb34 hb3 hG
          go_wp2_with fail
          go_meet
          exact ⟨_, _, _, _, _, hfin.out.1, hfin.out.2, h1.out, h2.out⟩
        · have hI : (how : Int) % 4 = 1 := by omega
          have hfin : Has (W4.setCell ⟨w3.heap.size, 1, none⟩ (.int .i64 0)) w3.heap.size [.string tagS, .int .i64 0, .slice (some ⟨cg, 0, none⟩) n sc, .slice none 0 0, .int .u64 0, .int .u64 0] 32 ∧ Refused (W4.setCell ⟨w3.heap.size, 1, none⟩ (.int .i64 0)) tagS 0 (some ⟨cg, 0, none⟩) n sc := by
            refine ⟨hT.set 1 _, 14, by omega, fun w' hb => ?_⟩
            have hrd : Rd w' (.slice (some ⟨cg, 0, none⟩) cs.length sc) cs.length (cCells cs) := by
              rw [hct]
              exact (hR4.rd.only (Only.setCell (S := fun j => j = w3.heap.size) (Only.refl _ _) (a := ⟨w3.heap.size, 1, none⟩) (fun _ => rfl) (.int .i64 0)) (fun k hk e => by simp only [Value.ownBlock, Option.some.injEq] at hk; omega)).kept hb
            have h14 : VerIs 0 cs 14 := .inl ⟨rfl, .inl (by omega)⟩
            have := tabvalid_any tagS 116 One.tag 0 cs hG.ok (by rw [hct]; exact hn0) 14 h14 (some ⟨cg, 0, none⟩) sc w' hrd ((hEW.below (hsT 1 (.int .i64 0))).below hb)
            rw [hct] at this
            exact this
          have h1 := hsT 1 (.int .i64 0)
          have h2 := hxT 1 (.int .i64 0)
          replace hfin := Lib.hid hfin
          replace h1 := Lib.hid h1
          replace h2 := Lib.hid h2
          replace hq := Lib.hid hq
          clear hsT hxT hT hR hR4 hX3 hX4 hb4 hb34 hb3 hG
          go_wp2_with fail
          go_meet
          exact ⟨_, _, _, _, _, hfin.out.1, hfin.out.2, h1.out, h2.out⟩
        · have hI : (how : Int) % 4 = 2 := by omega
          obtain ⟨c, rest, hcs⟩ : ∃ c rest, cs = c :: rest := by
            cases cs with
            | nil => simp at hct; omega
            | cons c rest => exact ⟨c, rest, rfl⟩
          have hown := hR4.o
          have hc3 : W4.cell? ⟨cg, 3, none⟩ = some (.int .i64 c.sc) := by rw [hown.cellAt 3 (by omega), hcs]; rfl
          have hf3 := hown.frozenAt 3
          have hfin : Has (W4.setCell ⟨cg, 3, none⟩ (.int .i64 2)) w3.heap.size [.string tagS, .int .i64 (ver : Int), .slice (some ⟨cg, 0, none⟩) n sc, .slice none 0 0, .int .u64 0, .int .u64 0] 32 ∧ Refused (W4.setCell ⟨cg, 3, none⟩ (.int .i64 2)) tagS ver (some ⟨cg, 0, none⟩) n sc := by
            refine ⟨hT.set_ne (a := ⟨cg, 3, none⟩) (by show w3.heap.size ≠ cg; omega) _, 14, by omega, fun w' hb => ?_⟩
            have hst := (hown.stored 3 (.int .i64 2)).1
            rw [hcs, ← cc_set] at hst
            have hl2 : ({ c with sc := 2 } :: rest : List CV).length = n := by rw [← hct, hcs]; rfl
            have hrd : Rd w' (.slice (some ⟨cg, 0, none⟩) ({ c with sc := 2 } :: rest : List CV).length sc) ({ c with sc := 2 } :: rest : List CV).length (cCells ({ c with sc := 2 } :: rest)) := by
              rw [hl2]
              exact (Rd.of_own hst).kept hb
            have hv1 : 1 ≤ (ver : Int) ∧ (ver : Int) ≤ 65535 := by
              rcases hG.vok with ⟨h, _⟩ | ⟨_, h1, h2, _⟩
              · cases h
              · exact ⟨h1, h2⟩
            have h14 : VerIs ver ({ c with sc := 2 } :: rest) 14 := .inl ⟨rfl, .inr ⟨hv1.1, hv1.2, by show (2 : Int) ≠ 1; omega⟩⟩
            have := tabvalid_any tagS 116 One.tag ver ({ c with sc := 2 } :: rest) (hG.ok.since hcs) (by rw [hl2]; exact hn0) 14 h14 (some ⟨cg, 0, none⟩) sc w' hrd ((hEW.below (hb4.setCell (p := ⟨cg, 3, none⟩) (by show W.heap.size ≤ cg; omega) _)).below hb)
            rw [hl2] at this
            exact this
          have h1 := hb4.setCell (p := ⟨cg, 3, none⟩) (by show W.heap.size ≤ cg; omega) (.int .i64 2)
          have h2 := hX4.set_ne (a := ⟨cg, 3, none⟩) (by show w.heap.size ≠ cg; omega) (.int .i64 2)
          have hnI : (0 : Int) < n := by omega
          replace hfin := Lib.hid hfin
          replace h1 := Lib.hid h1
          replace h2 := Lib.hid h2
          replace hq := Lib.hid hq
          replace hcs := Lib.hid hcs
          replace hct := Lib.hid hct
          clear hsT hxT hT hR hR4 hX3 hX4 hb4 hb34 hb3 hG hown
          go_wp2_with fail
          go_meet
          exact ⟨_, _, _, _, _, hfin.out.1, hfin.out.2, h1.out, h2.out⟩
        · have hI : (how : Int) % 4 = 3 := by omega
          have hfin : Has (W4.setCell ⟨w3.heap.size, 2, none⟩ (.slice none 0 0)) w3.heap.size [.string tagS, .int .i64 (ver : Int), .slice none 0 0, .slice none 0 0, .int .u64 0, .int .u64 0] 32 ∧ Refused (W4.setCell ⟨w3.heap.size, 2, none⟩ (.slice none 0 0)) tagS ver none 0 0 := ⟨hT.set 2 _, 9, by omega, fun w' _ => tabvalid_nil tagS 116 One.tag ver w'⟩
          have h1 := hsT 2 (.slice none 0 0)
          have h2 := hxT 2 (.slice none 0 0)
          replace hfin := Lib.hid hfin
          replace h1 := Lib.hid h1
          replace h2 := Lib.hid h2
          replace hq := Lib.hid hq
          clear hsT hxT hT hR hR4 hX3 hX4 hb4 hb34 hb3 hG
          go_wp2_with fail
          go_meet
          exact ⟨_, _, _, _, _, hfin.out.1, hfin.out.2, h1.out, h2.out⟩
      case rest =>
        rename World => W5
        obtain ⟨tn, v2, c2, n2, s2, hT5, hRef, hb5, hX5⟩ := hcut
        clear hT hR hR4 hX3 hX4 hb4 hb34 hb3 hG t0 t1 t2 t3 t4 t5 f0 f1 f2 f3 f4 f5 hE4 hxh hb2
        have t0 := hT5.cell (o := 0) rfl
        have t1 := hT5.cell (o := 1) rfl
        have t2 := hT5.cell (o := 2) rfl
        have t3 := hT5.cell (o := 3) rfl
        have t4 := hT5.cell (o := 4) rfl
        have t5 := hT5.cell (o := 5) rfl
        have c1 := rowenc_refused (ra := ra) (m := rl) (rc := rc) hRef
        replace c1 := Lib.hid c1
        go_wp2_with fail
        refine c1.out.mono ?_
        rintro e w6 ⟨rfl, hb56⟩
        have hT6 := hT5.only (Only.of_below hb56) (Nat.not_le.2 hT5.lt)
        have hX6 := hX5.only (Only.of_below hb56) (Nat.not_le.2 hX5.lt)
        have hRef6 := hRef.later hb56
        have hb6 := hb5.trans (hb56.mono hb5.size)
        clear t0 t1 t2 t3 t4 t5 hT5 hX5 hRef hb5 hb56 c1
        have t0 := hT6.cell (o := 0) rfl
        have t1 := hT6.cell (o := 1) rfl
        have t2 := hT6.cell (o := 2) rfl
        have t3 := hT6.cell (o := 3) rfl
        have t4 := hT6.cell (o := 4) rfl
        have t5 := hT6.cell (o := 5) rfl
        have x0 := hX6.cell (o := 0) rfl
        have c1 := decode_refused (ra := pa) (m := pn) (rc := pc) hRef6
        replace c1 := Lib.hid c1
        go_wp2_with fail
        refine c1.out.mono ?_
        rintro e w7 ⟨rfl, hb67⟩
        have hT7 := hT6.only (Only.of_below hb67) (Nat.not_le.2 hT6.lt)
        have hRef7 := hRef6.later hb67
        have hb7 := hb6.trans (hb67.mono hb6.size)
        clear t0 t1 t2 t3 t4 t5 hT6 hX6 hRef6 hb6 hb67 c1 x0
        have t0 := hT7.cell (o := 0) rfl
        have t1 := hT7.cell (o := 1) rfl
        have t2 := hT7.cell (o := 2) rfl
        have t3 := hT7.cell (o := 3) rfl
        have t4 := hT7.cell (o := 4) rfl
        have t5 := hT7.cell (o := 5) rfl
        have c1 := rowvalid_bad (ra := ra) (m := rl) (rc := rc) hRef7
        replace c1 := Lib.hid c1
        go_wp2_with fail
        refine c1.out.mono ?_
        rintro e w8 ⟨rfl, hb78⟩
        have hff := early.out w8 (hb7.trans (hb78.mono hb7.size))
        replace hff := Lib.hid hff
        clear t0 t1 t2 t3 t4 t5 hT7 hRef7 hb7 hb78 c1
        go_wp2_with fail
        go_ret
        exact ⟨rfl, hff.out⟩
end Go.Proofs.YtpjbcadelmjmfaaGreatDoor
