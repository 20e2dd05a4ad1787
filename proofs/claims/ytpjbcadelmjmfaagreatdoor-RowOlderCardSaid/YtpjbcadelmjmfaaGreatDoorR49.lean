/- The walk of Table.Add. -/
import Derived.Test.YtpjbcadelmjmfaaGreatDoorR48
import Derived.Test.YtpjbcadelmjmfaaGreatDoorR16
import Derived.Laws.StructEq
namespace Go.Proofs.YtpjbcadelmjmfaaGreatDoor
open Go.RowKit Go.Lib
set_option linter.unusedVariables false

theorem RowB.storeAt {w wr : World} {T : TypeId} {size n g : Nat} {xs : List Value} {sc : Nat} (h : RowB w T size n xs (some ⟨g, 0, none⟩) sc wr) (j : Nat) (u : Value) : RowB w T size n (xs.set j u) (some ⟨g, 0, none⟩) sc (wr.setCell ⟨g, j, none⟩ u) :=
  ⟨(h.o.stored j u).1, h.ob, h.b.setCell (h.ob g rfl) u⟩
def CV.bump (v : Int) (c : CV) : CV := { c with sc := v }
theorem cC_set (v : Int) : ∀ (l : List CV) (k : Nat), k < l.length → (cCells l).set (k * 9 + 3) (.int .i64 v) = cCells (l.set k ((l.getD k CV0).bump v))
  | c :: l, 0, _ => by
    obtain ⟨nm, ty, nl, sc, ⟨dty, dnl, dn, dtx, db⟩⟩ := c
    rfl
  | c :: l, k + 1, h => by
    have ih := cC_set v l k (by simpa using h)
    have e : cCells (c :: l) = c.cells ++ cCells l := by simp [cCells]
    have hl : c.cells.length = 9 := rfl
    rw [e, List.set_append_right _ _ (by rw [hl]; omega), hl]
    have e2 : (k + 1) * 9 + 3 - 9 = k * 9 + 3 := by omega
    rw [e2, ih]
    simp [cCells]
  | [], k, h => by simp at h
/-- The new columns, of which the first j bear the new version. -/
def updL (v : Int) (cs mr : List CV) (j : Nat) : List CV := cs ++ ((mr.take j).map (CV.bump v) ++ mr.drop j)
theorem updL_len (v : Int) (cs mr : List CV) (j : Nat) (h : j ≤ mr.length) : (updL v cs mr j).length = cs.length + mr.length := by
  unfold updL
  rw [List.length_append, List.length_append, List.length_map, List.length_take, List.length_drop]
  omega
theorem updL_zero (v : Int) (cs mr : List CV) : updL v cs mr 0 = cs ++ mr := by simp [updL]
theorem updL_all (v : Int) (cs mr : List CV) : updL v cs mr mr.length = cs ++ mr.map (CV.bump v) := by simp [updL]
theorem updL_step (v : Int) (cs mr : List CV) (j : Nat) (h : j < mr.length) : (updL v cs mr j).set (cs.length + j) (((updL v cs mr j).getD (cs.length + j) CV0).bump v) = updL v cs mr (j + 1) := by
  have hl : ((mr.take j).map (CV.bump v)).length = j := by rw [List.length_map, List.length_take]; omega
  have hd : mr.drop j = mr.getD j CV0 :: mr.drop (j + 1) := by
    rw [List.getD, List.getElem?_eq_getElem h]
    exact List.drop_eq_getElem_cons h
  have hg : (updL v cs mr j).getD (cs.length + j) CV0 = mr.getD j CV0 := by
    unfold updL
    rw [List.getD, List.getElem?_append_right (by omega), List.getElem?_append_right (by rw [hl]; omega), hl, hd]
    have e : cs.length + j - cs.length - j = 0 := by omega
    rw [e]; rfl
  rw [hg]
  unfold updL
  rw [List.set_append_right _ _ (by omega), List.set_append_right _ _ (by rw [hl]; omega), hl, hd]
  have e : cs.length + j - cs.length - j = 0 := by omega
  rw [e, List.set_cons_zero]
  congr 1
  have e3 : mr.take (j + 1) = mr.take j ++ [mr.getD j CV0] := take_getD mr j CV0 h
  rw [e3, List.map_append, List.map_singleton, List.append_assoc]
  rfl

set_option maxHeartbeats 2000000 in
set_option maxRecDepth 100000 in
theorem clone_nil (w : World) : Calls Tryz.prog 61 #[.slice none 0 0] w (fun e w' => e = .returned (.slice none 0 0) ∧ w = w') := by
  have heq := fun (wx : World) => run_eql_slice_nil (P := Tryz.prog) wx
  go_enter Tryz.func61, Tryz.ntmps61
  go_wp2_with fail
  first | (go_ret; exact ⟨rfl, rfl⟩) | exact ⟨rfl, rfl⟩
theorem RowB.other {w wr : World} {T : TypeId} {size n : Nat} {xs : List Value} {sa : Option Addr} {sc : Nat} (h : RowB w T size n xs sa sc wr) (a : Addr) (hne : ∀ k, Value.ownBlock (.slice sa n sc) = some k → k ≠ a.block) (hge : w.heap.size ≤ a.block) (u : Value) : RowB w T size n xs sa sc (wr.setCell a u) :=
  ⟨ownsRow_only h.o ((Only.refl (fun k => k = a.block) wr).setCell (fun _ => rfl) u) hne, h.ob, h.b.setCell hge u⟩
/-- Add: the next version of the table, with these columns behind the others. -/
def AddPost (w : World) (tn : ByteArray) (ver : Nat) (cs mr : List CV) (e : Ending) (w' : World) : Prop :=
  ∃ a c, e = .returned (.tuple #[.agg #[.string tn, .int .i64 ((ver + 1 : Nat) : Int), .slice a (cs.length + mr.length) c, .slice none 0 0, .int .u64 0, .int .u64 0], .int .i64 0]) ∧
    RowB w 78 9 (cs.length + mr.length) (cCells (cs ++ mr.map (CV.bump ((ver + 1 : Nat) : Int)))) a c w'
set_option maxHeartbeats 8000000 in
set_option maxRecDepth 100000 in
theorem add_any (tn : ByteArray) (y0 : Nat) (hn : One tn y0) (ver : Nat) (cs mr : List CV) (hg : TG ver cs) (hmr : 0 < mr.length) (hg2 : TG (ver + 1) (cs ++ mr.map (CV.bump ((ver + 1 : Nat) : Int))))
    (ca : Option Addr) (cc : Nat) (la : Option Addr) (lc : Nat) (w : World) (hE : Env w) (hr : Rd w (.slice ca cs.length cc) cs.length (cCells cs)) (hl : Rd w (.slice la mr.length lc) mr.length (cCells mr)) :
    Calls Tryz.prog 37 #[.agg #[.string tn, .int .i64 (ver : Int), .slice ca cs.length cc, .slice none 0 0, .int .u64 0, .int .u64 0], .slice la mr.length lc] w (AddPost w tn ver cs mr) := by
  generalize hpost : AddPost w tn ver cs mr = post
  replace hpost := Lib.hid hpost
  obtain ⟨n, hnn⟩ : ∃ n, n = cs.length := ⟨_, rfl⟩
  obtain ⟨k, hkk⟩ : ∃ k, k = mr.length := ⟨_, rfl⟩
  obtain ⟨v2, hv2⟩ : ∃ v2, v2 = ver + 1 := ⟨_, rfl⟩
  have hfin : ∀ a c w', RowB w 78 9 (n + k) (cCells (cs ++ mr.map (CV.bump (v2 : Int)))) a c w' → post (.returned (.tuple #[.agg #[.string tn, .int .i64 (v2 : Int), .slice a (n + k) c, .slice none 0 0, .int .u64 0, .int .u64 0], .int .i64 0])) w' := by
    intro a c w' h
    rw [← hpost.out]
    unfold AddPost
    rw [← hnn, ← hkk, ← hv2]
    exact ⟨a, c, rfl, h⟩
  have hlt := hg.lt
  have hn0 := hg.pos
  have hm8 := hg2.ok.len
  rw [List.length_append, List.length_map, ← hnn, ← hkk] at hm8
  rw [← hv2] at hg2
  obtain ⟨W, hW⟩ : ∃ W, W = (w.alloc (.cells #[.string tn, .int .i64 (ver : Int), .slice ca n cc, .slice none 0 0, .int .u64 0, .int .u64 0] 32)).alloc (.cells #[.string ⟨#[]⟩, .int .i64 0, .slice none 0 0, .slice none 0 0, .int .u64 0, .int .u64 0] 32) := ⟨_, rfl⟩
  have hz1 : (w.alloc (.cells #[.string tn, .int .i64 (ver : Int), .slice ca n cc, .slice none 0 0, .int .u64 0, .int .u64 0] 32)).heap.size = w.heap.size + 1 := by simp
  have hT : Has W w.heap.size [.string tn, .int .i64 (ver : Int), .slice ca n cc, .slice none 0 0, .int .u64 0, .int .u64 0] 32 := by rw [hW]; exact (Has.new w _ _).alloc _
  have hZ : Has W (w.heap.size + 1) [.string ⟨#[]⟩, .int .i64 0, .slice none 0 0, .slice none 0 0, .int .u64 0, .int .u64 0] 32 := by rw [hW, ← hz1]; exact Has.new _ _ _
  have hBW : Below w.heap.size w W := by rw [hW]; exact ((Below.refl _ _).alloc (Nat.le_refl _) _).alloc (by simp) _
  have hEW := hE.below hBW
  have hrW := hr.kept hBW
  have hv := tabvalid_any tn y0 hn (ver : Int) cs hg.ok hg.pos 0 hg.vok ca cc W hrW hEW
  rw [← hnn] at hv ⊢
  rw [← hkk] at hmr ⊢
  have dk : ((k : Int) == 0) = false := by rw [beq_eq_false_iff_ne]; omega
  have t0 := hT.cell (o := 0) rfl
  have t1 := hT.cell (o := 1) rfl
  have t2 := hT.cell (o := 2) rfl
  have t3 := hT.cell (o := 3) rfl
  have t4 := hT.cell (o := 4) rfl
  have t5 := hT.cell (o := 5) rfl
  have wv : wrap64 ((ver : Int) + 1) = (v2 : Int) := by unfold wrap64; omega
  replace hW := Lib.hid hW
  replace hv := Lib.hid hv
  replace hfin := Lib.hid hfin
  replace hnn := Lib.hid hnn
  replace hkk := Lib.hid hkk
  replace hv2 := Lib.hid hv2
  replace hBW := Lib.hid hBW
  replace wv := Lib.hid wv
  clear hrW hz1
  go_enter Tryz.func37, Tryz.ntmps37
  go_upto_region 1 with fail
  rw [← hW.out]
  go_wp2_with fail
  refine hv.out.mono ?_
  rintro e w3 ⟨rfl, hb3⟩
  have hT3 := hT.only (Only.of_below hb3) (Nat.not_le.2 hT.lt)
  have hZ3 := hZ.only (Only.of_below hb3) (Nat.not_le.2 hZ.lt)
  clear t0 t1 t2 t3 t4 t5 hv
  have t0 := hT3.cell (o := 0) rfl
  have t1 := hT3.cell (o := 1) rfl
  have t2 := hT3.cell (o := 2) rfl
  have t3 := hT3.cell (o := 3) rfl
  have t4 := hT3.cell (o := 4) rfl
  have t5 := hT3.cell (o := 5) rfl
  have hbw3 := hBW.out.trans (hb3.mono hBW.out.size)
  -- the next table: a copy, with the next version
  obtain ⟨b7, hb7⟩ : ∃ b7, b7 = w3.heap.size := ⟨_, rfl⟩
  obtain ⟨w4, hw4⟩ : ∃ w4, w4 = w3.alloc (.cells #[.string tn, .int .i64 (v2 : Int), .slice ca n cc, .slice none 0 0, .int .u64 0, .int .u64 0] 32) := ⟨_, rfl⟩
  have hN4 : Has w4 b7 [.string tn, .int .i64 (v2 : Int), .slice ca n cc, .slice none 0 0, .int .u64 0, .int .u64 0] 32 := by rw [hw4, hb7]; exact Has.new w3 _ _
  have hb34 : Below w3.heap.size w3 w4 := by rw [hw4]; exact (Below.refl _ _).alloc (Nat.le_refl _) _
  have hb4 := hbw3.trans (hb34.mono hbw3.size)
  have hT4 := hT3.only (Only.of_below hb34) (Nat.not_le.2 hT3.lt)
  have hZ4 := hZ3.only (Only.of_below hb34) (Nat.not_le.2 hZ3.lt)
  have e2 : (ver : Int) + 1 = (v2 : Int) := by have := hv2.out; omega
  have hbs : w.heap.size + 1 < b7 := by rw [hb7]; exact hZ3.lt
  replace hw4 := Lib.hid hw4
  replace hbw3 := Lib.hid hbw3
  replace hb3 := Lib.hid hb3
  replace hT3 := Lib.hid hT3
  replace hZ3 := Lib.hid hZ3
  replace hT := Lib.hid hT
  replace hZ := Lib.hid hZ
  replace e2 := Lib.hid e2
  replace hb34 := Lib.hid hb34
  have wv' := wv.out
  replace hb7 := Lib.hid hb7
  go_upto_region 8 with fail
  rw [e2.out, ← hw4.out, ← hb7.out]
  clear t0 t1 t2 t3 t4 t5 wv'
  have t2 := hT4.cell (o := 2) rfl
  obtain ⟨w5, hw5⟩ : ∃ w5, w5 = w4.alloc (.cells #[.slice ca n cc, .slice la k lc] 27) := ⟨_, rfl⟩
  have hb45 : Below w4.heap.size w4 w5 := by rw [hw5]; exact (Below.refl _ _).alloc (Nat.le_refl _) _
  have hb5 := hb4.trans (hb45.mono hb4.size)
  have hB5 : Has w5 w4.heap.size [.slice ca n cc, .slice la k lc] 27 := by rw [hw5]; exact Has.new w4 _ _
  have hcon := concat_any cs mr hn0 (by have := hkk.out; omega) (by have := hkk.out; have := hnn.out; omega) ca la cc lc w4.heap.size w5 27 (by rw [← hnn.out, ← hkk.out]; exact hB5) (hr.kept hb5) (hl.kept hb5)
  obtain ⟨N, hN⟩ : ∃ N, N = n + k := ⟨_, rfl⟩
  have hNl : (cs ++ mr).length = N := by rw [List.length_append, ← hnn.out, ← hkk.out, hN]
  rw [hNl] at hcon
  replace hw5 := Lib.hid hw5
  replace hcon := Lib.hid hcon
  replace hb4 := Lib.hid hb4
  replace hT4 := Lib.hid hT4
  replace hZ4 := Lib.hid hZ4
  replace hN4 := Lib.hid hN4
  replace hb45 := Lib.hid hb45
  replace hb5 := Lib.hid hb5
  replace hNl := Lib.hid hNl
  replace hN := Lib.hid hN
  clear hB5
  go_wp2_with fail
  rw [← hw5.out]
  refine hcon.out.mono ?_
  rintro e w6 ⟨ga, gc, rfl, hR6⟩
  have hNpos : 0 < N := by have := hN.out; omega
  have hNle : N ≤ 8 := by have := hN.out; omega
  obtain ⟨g, rfl, hg5⟩ : ∃ g, ga = some ⟨g, 0, none⟩ ∧ w5.heap.size ≤ g := by
    rcases hR6.o.2 with ⟨_, h0⟩ | ⟨g, cap, cur, hv, _⟩
    · omega
    · simp only [Value.slice.injEq, true_and] at hv
      exact ⟨g, hv.1, hR6.ob g (by rw [hv.1]; rfl)⟩
  have hb46 := hb45.out.trans (hR6.b.mono hb45.out.size)
  have hN6 := hN4.out.only (Only.of_below hb46) (Nat.not_le.2 hN4.out.lt)
  have hT6 := hT4.out.only (Only.of_below hb46) (Nat.not_le.2 hT4.out.lt)
  have hZ6 := hZ4.out.only (Only.of_below hb46) (Nat.not_le.2 hZ4.out.lt)
  have hb74 : b7 < w4.heap.size := hN4.out.lt
  have hg7 : b7 < g := by have := hb45.out.size; omega
  have hRw := hR6.rebase hb5.out
  have n2 := hN6.cell (o := 2) rfl
  have f2 := hN6.free 2
  obtain ⟨w7, hw7⟩ : ∃ w7, w7 = w6.setCell ⟨b7, 2, none⟩ (.slice (some ⟨g, 0, none⟩) N gc) := ⟨_, rfl⟩
  have hw7b : w.heap.size ≤ b7 := by omega
  have hN7 : Has w7 b7 [.string tn, .int .i64 (v2 : Int), .slice (some ⟨g, 0, none⟩) N gc, .slice none 0 0, .int .u64 0, .int .u64 0] 32 := by rw [hw7]; exact hN6.set 2 _
  have hT7 : Has w7 w.heap.size [.string tn, .int .i64 (ver : Int), .slice ca n cc, .slice none 0 0, .int .u64 0, .int .u64 0] 32 := by rw [hw7]; exact hT6.set_ne (by show w.heap.size ≠ b7; omega) _
  have hZ7 : Has w7 (w.heap.size + 1) [.string ⟨#[]⟩, .int .i64 0, .slice none 0 0, .slice none 0 0, .int .u64 0, .int .u64 0] 32 := by rw [hw7]; exact hZ6.set_ne (by show w.heap.size + 1 ≠ b7; omega) _
  have hR7 : RowB w 78 9 N (cCells (updL (v2 : Int) cs mr 0)) (some ⟨g, 0, none⟩) gc w7 := by
    rw [updL_zero, hw7]
    exact hRw.other ⟨b7, 2, none⟩ (fun kk hk => by simp only [Value.ownBlock, Option.some.injEq] at hk; show kk ≠ b7; omega) hw7b _
  replace hw7 := Lib.hid hw7
  replace hN7 := Lib.hid hN7
  replace hT7 := Lib.hid hT7
  replace hZ7 := Lib.hid hZ7
  replace hR7 := Lib.hid hR7
  clear hR6 hRw hb46 hN6 hT6 hZ6 t2
  go_upto_region 9 with fail
  rw [← hw7.out]
  clear n2 f2
  have t2 := hT7.out.cell (o := 2) rfl
  go_wp2_with fail
  go_loopw [8] (fun i wr => ∃ j : Nat, n ≤ j ∧ j ≤ N ∧ i = .int .i64 j ∧ RowB w 78 9 N (cCells (updL (v2 : Int) cs mr (j - n))) (some ⟨g, 0, none⟩) gc wr ∧ Has wr b7 [.string tn, .int .i64 (v2 : Int), .slice (some ⟨g, 0, none⟩) N gc, .slice none 0 0, .int .u64 0, .int .u64 0] 32 ∧ Has wr w.heap.size [.string tn, .int .i64 (ver : Int), .slice ca n cc, .slice none 0 0, .int .u64 0, .int .u64 0] 32 ∧ Has wr (w.heap.size + 1) [.string ⟨#[]⟩, .int .i64 0, .slice none 0 0, .slice none 0 0, .int .u64 0, .int .u64 0] 32) (fun i _ => N - (RowKit.intOf i).toNat)
  case atStart => exact ⟨n, by omega, by have := hN.out; omega, rfl, by rw [Nat.sub_self]; exact hR7.out, hN7.out, hT7.out, hZ7.out⟩
  case round =>
    clear t2
    obtain ⟨j, hj0, hj1, rfl, hRj, hNj, hTj, hZj⟩ := hrel
    have m1 := hNj.cell (o := 1) rfl
    have m2 := hNj.cell (o := 2) rfl
    by_cases hjN : j < N
    · have hjI : (j : Int) < N := by omega
      have hjk : j - n < mr.length := by have := hN.out; have := hkk.out; omega
      have hLl := updL_len (v2 : Int) cs mr (j - n) (by omega)
      have hjL : j < (updL (v2 : Int) cs mr (j - n)).length := by rw [hLl, ← hnn.out, ← hkk.out]; have := hN.out; omega
      have hcl := hRj.o.1
      obtain ⟨u3, hu3⟩ : ∃ u, wr.cell? ⟨g, j * 9 + 3, none⟩ = some u := by
        rw [hRj.o.cellAt (j * 9 + 3) (by omega)]
        exact ⟨_, List.getElem?_eq_getElem (by rw [hcl]; omega)⟩
      have hf3 : wr.frozen? ⟨g, j * 9 + 3, none⟩ = false := hRj.o.frozenAt (j * 9 + 3)
      have hup : RowB w 78 9 N (cCells (updL (v2 : Int) cs mr (j + 1 - n))) (some ⟨g, 0, none⟩) gc (wr.setCell ⟨g, j * 9 + 3, none⟩ (.int .i64 (v2 : Int))) := by
        have h := hRj.storeAt (j * 9 + 3) (.int .i64 (v2 : Int))
        rw [cC_set _ _ _ hjL] at h
        have e : (updL (v2 : Int) cs mr (j - n)).set j (((updL (v2 : Int) cs mr (j - n)).getD j CV0).bump (v2 : Int)) = updL (v2 : Int) cs mr (j + 1 - n) := by
          have h2 := updL_step (v2 : Int) cs mr (j - n) hjk
          rw [← hnn.out] at h2
          rw [show n + (j - n) = j by omega, show j - n + 1 = j + 1 - n by omega] at h2
          exact h2
        rw [e] at h
        exact h
      have hNj' := hNj.set_ne (a := ⟨g, j * 9 + 3, none⟩) (by show b7 ≠ g; omega) (.int .i64 (v2 : Int))
      have hTj' := hTj.set_ne (a := ⟨g, j * 9 + 3, none⟩) (by show w.heap.size ≠ g; omega) (.int .i64 (v2 : Int))
      have hZj' := hZj.set_ne (a := ⟨g, j * 9 + 3, none⟩) (by show w.heap.size + 1 ≠ g; omega) (.int .i64 (v2 : Int))
      replace hup := Lib.hid hup
      replace hNj' := Lib.hid hNj'
      replace hTj' := Lib.hid hTj'
      replace hZj' := Lib.hid hZj'
      clear hRj hNj hTj hZj hLl hjL hcl hjk
      go_wp2_with fail
      go_roundw
      case rel => exact ⟨j + 1, by omega, by omega, by go_num, hup.out, hNj'.out, hTj'.out, hZj'.out⟩
      case measure => simp [RowKit.intOf]; omega
    · have hjI : ¬ (j : Int) < N := by omega
      have hjk : j - n = mr.length := by have := hN.out; have := hkk.out; omega
      rw [hjk, updL_all] at hRj
      have t3 := hTj.cell (o := 3) rfl
      have m3 := hNj.cell (o := 3) rfl
      have f3 := hNj.free 3
      obtain ⟨w8, hw8⟩ : ∃ w8, w8 = wr.setCell ⟨b7, 3, none⟩ (.slice none 0 0) := ⟨_, rfl⟩
      have hN8 : Has w8 b7 [.string tn, .int .i64 (v2 : Int), .slice (some ⟨g, 0, none⟩) N gc, .slice none 0 0, .int .u64 0, .int .u64 0] 32 := by rw [hw8]; exact hNj.set 3 _
      have hZ8 : Has w8 (w.heap.size + 1) [.string ⟨#[]⟩, .int .i64 0, .slice none 0 0, .slice none 0 0, .int .u64 0, .int .u64 0] 32 := by rw [hw8]; exact hZj.set_ne (by show w.heap.size + 1 ≠ b7; omega) _
      have hR8 : RowB w 78 9 N (cCells (cs ++ mr.map (CV.bump (v2 : Int)))) (some ⟨g, 0, none⟩) gc w8 := by
        rw [hw8]
        exact hRj.other ⟨b7, 3, none⟩ (fun kk hk => by simp only [Value.ownBlock, Option.some.injEq] at hk; show kk ≠ b7; omega) hw7b _
      have hval : Calls Tryz.prog 40 #[.agg #[.string tn, .int .i64 (v2 : Int), .slice (some ⟨g, 0, none⟩) N gc, .slice none 0 0, .int .u64 0, .int .u64 0]] w8 (RPost w8 (.int .i64 0)) := by
        have hl2 : (cs ++ mr.map (CV.bump (v2 : Int))).length = N := by rw [List.length_append, List.length_map, ← hnn.out, ← hkk.out, hN.out]
        have h := tabvalid_any tn y0 hn (v2 : Int) (cs ++ mr.map (CV.bump (v2 : Int))) hg2.ok hg2.pos 0 hg2.vok (some ⟨g, 0, none⟩) gc w8 (by rw [hl2]; exact hR8.rd) (hE.below hR8.b)
        rw [hl2] at h
        exact h
      have k0 := hN8.cell (o := 0) rfl
      have k1 := hN8.cell (o := 1) rfl
      have k2 := hN8.cell (o := 2) rfl
      have k3 := hN8.cell (o := 3) rfl
      have k4 := hN8.cell (o := 4) rfl
      have k5 := hN8.cell (o := 5) rfl
      replace hw8 := Lib.hid hw8
      replace hval := Lib.hid hval
      replace hN8 := Lib.hid hN8
      replace hZ8 := Lib.hid hZ8
      replace hR8 := Lib.hid hR8
      clear hRj hNj hTj hZj
      have kc := fun w' => clone_nil w'
      replace kc := Lib.hid kc
      go_wp2_with fail
      refine (kc.out _).mono ?_
      rintro e w9 ⟨rfl, rfl⟩
      go_upto_region 14 with fail
      rw [← hw8.out]
      clear t3 m3 f3 m1 m2
      go_wp2_with fail
      refine hval.out.mono ?_
      rintro e w9 ⟨rfl, hb89⟩
      have hN9 := hN8.out.only (Only.of_below hb89) (Nat.not_le.2 hN8.out.lt)
      have hZ9 := hZ8.out.only (Only.of_below hb89) (Nat.not_le.2 hZ8.out.lt)
      have hR9 := hR8.out.below hb89
      clear k0 k1 k2 k3 k4 k5 hval
      have k0 := hN9.cell (o := 0) rfl
      have k1 := hN9.cell (o := 1) rfl
      have k2 := hN9.cell (o := 2) rfl
      have k3 := hN9.cell (o := 3) rfl
      have k4 := hN9.cell (o := 4) rfl
      have k5 := hN9.cell (o := 5) rfl
      have z0 := hZ9.cell (o := 0) rfl
      have z1 := hZ9.cell (o := 1) rfl
      have z2 := hZ9.cell (o := 2) rfl
      have z3 := hZ9.cell (o := 3) rfl
      have z4 := hZ9.cell (o := 4) rfl
      have z5 := hZ9.cell (o := 5) rfl
      have zf := fun o => hZ9.free o
      replace hN9 := Lib.hid hN9
      replace hZ9 := Lib.hid hZ9
      replace hR9 := Lib.hid hR9
      replace hb89 := Lib.hid hb89
      go_upto_region 17 with fail
      go_wp2_with fail
      obtain ⟨wf, hwf⟩ : ∃ wf, wf = ((((((w9.setCell ⟨w.heap.size + 1, 0, none⟩ (.string tn)).setCell ⟨w.heap.size + 1, 1, none⟩ (.int .i64 (v2 : Int))).setCell ⟨w.heap.size + 1, 2, none⟩ (.slice (some ⟨g, 0, none⟩) N gc)).setCell ⟨w.heap.size + 1, 3, none⟩ (.slice none 0 0)).setCell ⟨w.heap.size + 1, 4, none⟩ (.int .u64 0)).setCell ⟨w.heap.size + 1, 5, none⟩ (.int .u64 0)) := ⟨_, rfl⟩
      rw [← hwf]
      have hne : ∀ (o : Nat) kk, Value.ownBlock (.slice (some ⟨g, 0, none⟩) N gc) = some kk → kk ≠ (⟨w.heap.size + 1, o, none⟩ : Addr).block := fun o kk hk => by simp only [Value.ownBlock, Option.some.injEq] at hk; show kk ≠ w.heap.size + 1; omega
      have hge : ∀ o : Nat, w.heap.size ≤ (⟨w.heap.size + 1, o, none⟩ : Addr).block := fun o => Nat.le_succ _
      have hRf : RowB w 78 9 N (cCells (cs ++ mr.map (CV.bump (v2 : Int)))) (some ⟨g, 0, none⟩) gc wf := by
        rw [hwf]
        exact ((((((hR9.out.other _ (hne 0) (hge 0) _).other _ (hne 1) (hge 1) _).other _ (hne 2) (hge 2) _).other _ (hne 3) (hge 3) _).other _ (hne 4) (hge 4) _).other _ (hne 5) (hge 5) _)
      have hHf : Has wf (w.heap.size + 1) [.string tn, .int .i64 (v2 : Int), .slice (some ⟨g, 0, none⟩) N gc, .slice none 0 0, .int .u64 0, .int .u64 0] 32 := by
        rw [hwf]
        exact (((((hZ9.out.set 0 (.string tn)).set 1 (.int .i64 (v2 : Int))).set 2 (.slice (some ⟨g, 0, none⟩) N gc)).set 3 (.slice none 0 0)).set 4 (.int .u64 0)).set 5 (.int .u64 0)
      have q0 := hHf.cell (o := 0) rfl
      have q1 := hHf.cell (o := 1) rfl
      have q2 := hHf.cell (o := 2) rfl
      have q3 := hHf.cell (o := 3) rfl
      have q4 := hHf.cell (o := 4) rfl
      have q5 := hHf.cell (o := 5) rfl
      have hff : post (.returned (.tuple #[.agg #[.string tn, .int .i64 (v2 : Int), .slice (some ⟨g, 0, none⟩) N gc, .slice none 0 0, .int .u64 0, .int .u64 0], .int .i64 0])) wf := by
        rw [hN.out] at hRf ⊢
        exact hfin.out (some ⟨g, 0, none⟩) gc wf hRf
      replace hwf := Lib.hid hwf
      exact bodyPost_ret (v := .tuple #[.agg #[.string tn, .int .i64 (v2 : Int), .slice (some ⟨g, 0, none⟩) N gc, .slice none 0 0, .int .u64 0, .int .u64 0], .int .i64 0]) (by simp [results, Tryz.results37, go_sem, q0, q1, q2, q3, q4, q5]) rfl hff
end Go.Proofs.YtpjbcadelmjmfaaGreatDoor
