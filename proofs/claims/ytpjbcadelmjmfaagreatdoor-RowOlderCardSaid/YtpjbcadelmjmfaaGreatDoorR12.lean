/- The walk of row's encode. -/
import Derived.Test.YtpjbcadelmjmfaaGreatDoorR11
import Derived.Test.YtpjbcadelmjmfaaGreatDoorR5
import Derived.Test.YtpjbcadelmjmfaaGreatDoorR8
import Derived.Outline
namespace Go.Proofs.YtpjbcadelmjmfaaGreatDoor
open Go.RowKit Go.Lib

theorem infoU8 : (Tryz.prog.info? 5).map (fun i => (i.zero, i.size, i.bytes)) = some (some (.int .u8 0), 1, 1) := by kernel_rfl
theorem take_succ {α : Type} (d : α) {l : List α} {k : Nat} (h : k < l.length) : l.take (k + 1) = l.take k ++ [l.getD k d] := take_getD l k d h
theorem encR_snoc (l : List RV) (v : RV) : encR (l ++ [v]) = encR l ++ encV v := by simp [encR]
theorem enc_null {ver : Nat} {l : List RV} {k : Nat} (h : k < l.length) (hn : (l.getD k RV0).nl = true) : encP ver (l.take (k + 1)) = (encP ver (l.take k)).set 2 (nulls (l.take k) + 2 ^ k) := by
  rw [take_succ RV0 h]
  generalize l.getD k RV0 = v at *
  have hl : (l.take k).length = k := by rw [List.length_take]; omega
  unfold encP
  rw [encR_snoc, nulls_snoc, hn, if_pos rfl, hl]
  have : encV v = [] := by unfold encV; rw [hn, if_pos rfl]
  rw [this, List.append_nil]
  rfl
theorem enc_some {ver : Nat} {l : List RV} {k : Nat} (h : k < l.length) (hn : (l.getD k RV0).nl = false) : encP ver (l.take (k + 1)) = encP ver (l.take k) ++ encV (l.getD k RV0) := by
  rw [take_succ RV0 h]
  generalize l.getD k RV0 = v at *
  unfold encP
  rw [encR_snoc, nulls_snoc, hn]
  simp
theorem enc_len3 (ver : Nat) (l : List RV) : 3 ≤ (encP ver l).length := by unfold encP; simp
theorem b4_cells (n : Int) : [Value.int .u8 (n % 256), .int .u8 (n % 4294967296 / 256 % 256), .int .u8 (n % 4294967296 / 65536 % 256), .int .u8 (n % 4294967296 / 16777216)] = bcells (b4 n) := by
  unfold bcells b4
  simp only [List.map_cons, List.map_nil, List.cons.injEq, Value.int.injEq, true_and, and_true]
  omega
theorem enc_bd {l : List RV} (hok : ∀ v ∈ l, formP v = 0) (h8 : l.length ≤ 8) (ver : Nat) (k : Nat) : (encP ver (l.take k)).length ≤ 3 + 201 * 8 := by
  have hV : ∀ v : RV, formP v = 0 → (encV v).length ≤ 201 := by
    intro v hv
    obtain ⟨_, _, _, _, _, _, hs⟩ := form_parts hv
    unfold encV
    split
    · simp
    · split
      · simp [b4]
      · split
        · simp [natsOf]; omega
        · simp
  have hR : ∀ r : List RV, (∀ v ∈ r, formP v = 0) → (encR r).length ≤ 201 * r.length := by
    intro r
    induction r with
    | nil => intro _; simp [encR]
    | cons v r ih =>
      intro h
      have h1 := ih (fun x hx => h x (by simp [hx]))
      have h2 := hV v (h v (by simp))
      unfold encR at *
      rw [List.flatMap_cons, List.length_append, List.length_cons]
      omega
  have h1 := hR (l.take k) (fun v hv => hok v (List.mem_of_mem_take hv))
  have h2 : (l.take k).length ≤ 8 := by rw [List.length_take]; omega
  unfold encP
  simp only [List.length_cons]
  omega
/-- What the loop of encode holds. -/
structure EncR (w : World) (ver : Nat) (l : List RV) (k : Nat) (sa : Option Addr) (sc n : Nat) (wr : World) : Prop where
  len : n = (encP ver (l.take k)).length
  r : RowB w 5 1 n (bcells (encP ver (l.take k))) sa sc wr
theorem EncR.head {w wr : World} {ver k sc n : Nat} {l : List RV} {sa : Option Addr} (h : EncR w ver l k sa sc n wr) : ∃ g, sa = some ⟨g, 0, none⟩ ∧ g < wr.heap.size ∧ 2 < n ∧ wr.cell? ⟨g, 2, none⟩ = some (.int .u8 (nulls (l.take k) : Nat)) ∧ wr.frozen? ⟨g, 2, none⟩ = false := by
  have h3 := enc_len3 ver (l.take k)
  have hn := h.len
  obtain ⟨g, rfl, _⟩ := h.r.nonnil (by omega)
  refine ⟨g, rfl, ownsRow_lt h.r.o rfl, by omega, ?_, h.r.o.frozenAt 2⟩
  rw [h.r.o.cellAt 2 (by omega)]
  rfl

set_option maxHeartbeats 8000000 in
set_option maxRecDepth 100000 in
theorem encode_any (ver : Nat) (hver : ver < 65536) (l : List RV) (hok : ∀ v ∈ l, formP v = 0) (h8 : l.length ≤ 8) (a : Option Addr) (c : Nat) (w : World) (hr : Rd w (.slice a l.length c) l.length (vCells l)) :
    Calls Tryz.prog 39 #[.int .i64 (ver : Int), .slice a l.length c] w (RowPost w 5 1 (encP ver l).length (bcells (encP ver l))) := by
  generalize hpost : RowPost w 5 1 (encP ver l).length (bcells (encP ver l)) = post
  replace hpost := Lib.hid hpost
  have h0 : EncR w ver l 0 (some ⟨w.heap.size, 0, none⟩) 3 3 (w.alloc (.cells #[.int .u8 ((ver : Int) % 256), .int .u8 ((ver : Int) / 256), .int .u8 0] 5)) := by
    refine ⟨rfl, ?_, ?_, (Below.refl _ _).alloc (Nat.le_refl _) _⟩
    · refine ⟨rfl, .inr ⟨w.heap.size, 3, #[.int .u8 ((ver : Int) % 256), .int .u8 ((ver : Int) / 256), .int .u8 0], rfl, Nat.zero_le _, heap_alloc_new, Nat.le_refl _, by unfold maxLen; omega, rfl, ?_⟩⟩
      show [Value.int .u8 ((ver : Int) % 256), .int .u8 ((ver : Int) / 256), .int .u8 0] = [.int .u8 ((ver % 256 : Nat) : Int), .int .u8 ((ver / 256 % 256 : Nat) : Int), .int .u8 ((0 : Nat) : Int)]
      have e : ver / 256 % 256 = ver / 256 := Nat.mod_eq_of_lt (by omega)
      rw [e]
      rfl
    · intro k hk
      simp only [Value.ownBlock, Option.some.injEq] at hk
      omega
  replace h0 := Lib.hid h0
  go_enter Tryz.func39, Tryz.ntmps39
  go_wp2_with fail
  go_loopw [5, 17] (fun p i wr => ∃ (k : Nat) (sa : Option Addr) (sc n : Nat), k ≤ l.length ∧ i = .int .i64 k ∧ p = .slice sa n sc ∧ EncR w ver l k sa sc n wr) (fun _ i _ => l.length - (RowKit.intOf i).toNat)
  case atStart => exact ⟨0, _, _, _, by omega, rfl, rfl, h0.out⟩
  case round =>
    clear h0
    obtain ⟨k, sa, sc, n, hk, rfl, rfl, hR⟩ := hrel
    by_cases hlt : k < l.length
    · have hlI : (k : Int) < l.length := by omega
      obtain ⟨gb, hsa, hgl, n2, hgc, hgf⟩ := hR.head
      subst hsa
      have n2I : 2 < (n : Int) := by omega
      obtain ⟨bl, ol, cl, ea, fa⟩ := (hr.kept hR.r.b).val hlt
      simp only [Value.slice.injEq, true_and] at ea
      obtain ⟨rfl, hcap⟩ := ea
      replace hcap := Lib.hid hcap
      have hv1 := hok _ (List.mem_of_getElem? (get_lt RV0 hlt))
      have hen := enc_null (ver := ver) hlt
      have hes := enc_some (ver := ver) hlt
      have hbd := enc_bd hok h8 ver k
      have hnb := nulls_lt (l.take k)
      have hkl : (l.take k).length = k := by rw [List.length_take]; omega
      rw [hkl] at hnb
      have hb1 := hR.r
      have hbn := hR.len
      have hc := fun j v hj => fa j v hj
      generalize l.getD k RV0 = v at *
      obtain ⟨ty, nl, n', tx, b⟩ := v
      have c0 : wr.cell? ⟨bl, ol + k * 5, none⟩ = _ := hc 0 _ rfl
      have c1 := hc 1 _ rfl
      have c2 := hc 2 _ rfl
      have c3 := hc 3 _ rfl
      have c4 := hc 4 _ rfl
      have hRA := hb1.alloc (.cells #[.int .u8 (ty : Int), .bool nl, .int .i64 n', .string tx, .bool b] 50)
      have hN := Has.new wr [.int .u8 (ty : Int), .bool nl, .int .i64 n', .string tx, .bool b] 50
      have hbd2 : n ≤ 3 + 201 * 8 := by omega
      cases nl with
      | true =>
        have hor := or_bit k _ (by omega) hnb
        have he := hen rfl
        generalize nulls (l.take k) = nn at *
        have hBx : Below wr.heap.size wr (wr.alloc (.cells #[.int .u8 (ty : Int), .bool true, .int .i64 n', .string tx, .bool b] 50)).drew := below_drew ((Below.refl _ _).alloc (Nat.le_refl _) _)
        have hg2 := cellk hBx hgc
        have hgf2 := (hBx.frozen (p := ⟨gb, 2, none⟩) hgl).trans hgf
        have hor2 : bits .or .u8 (nn : Int) ((2 : Int) ^ k % 256) = ((nn + 2 ^ k : Nat) : Int) := by
          rw [← hor]
          congr 1
          have h1 : 2 ^ k < 256 := Nat.lt_of_lt_of_le (Nat.pow_lt_pow_right (by omega) (show k < 8 by omega)) (by decide)
          have h2 : ((2 ^ k : Nat) : Int) = (2 : Int) ^ k := by simp
          rw [← h2]
          omega
        have hRB := ((hb1.store 2 n2 (.int .u8 ((nn + 2 ^ k : Nat) : Int))).alloc (.cells #[.int .u8 (ty : Int), .bool true, .int .i64 n', .string tx, .bool b] 50)).below ((Below.refl _ _).drew)
        have hRC : EncR w ver l (k + 1) (some ⟨gb, 0, none⟩) sc n (((wr.setCell ⟨gb, 2, none⟩ (.int .u8 (bits .or .u8 (nn : Int) ((2 : Int) ^ k % 256)))).alloc (.cells #[.int .u8 (ty : Int), .bool true, .int .i64 n', .string tx, .bool b] 50)).drew) := by
          rw [hor2]
          refine ⟨?_, ?_⟩
          · rw [he, List.length_set]; exact hbn
          · rw [he]
            have e : bcells ((encP ver (l.take k)).set 2 (nn + 2 ^ k)) = (bcells (encP ver (l.take k))).set 2 (.int .u8 ((nn + 2 ^ k : Nat) : Int)) := by unfold bcells; rw [List.map_set]
            rw [e]
            exact hRB
        clear hor2
        have hk8 : k < 8 := by omega
        replace hRC := Lib.hid hRC
        replace he := Lib.hid he
        replace hbn := Lib.hid hbn
        replace hor := Lib.hid hor
        clear hc fa hr hok hen hes hbd hkl hRA hN hRB hb1 hR hgc hgf hv1 hnb
        go_upto_region 7 with fail
        refine region_tail 7 (by kernel_rfl) (by kernel_rfl) ?_
        simp only [List.take_succ_cons, List.take_zero, List.drop_succ_cons, List.drop_zero]
        repeat still_step
        refine wpStill_nil ?_
        go_wp2_with fail
        go_roundw
        case rel => exact ⟨k + 1, _, _, _, by omega, by go_num, rfl, hRC.out⟩
        case measure => simp [RowKit.intOf]; omega
      | false =>
        have he := hes rfl
        obtain ⟨hty, hN1, hN2, hN3, hnr, _, hsz⟩ := form_parts hv1
        simp only at hty hN1 hN2 hN3 hnr hsz
        clear hc fa hr hok hen hes hbd hkl hb1 hR hgc hgf hv1 hnb
        obtain rfl | rfl | rfl : ty = 1 ∨ ty = 2 ∨ ty = 3 := by omega
        · have hev : encV ⟨1, false, n', tx, b⟩ = b4 n' := rfl
          rw [hev] at he
          have hRA4 := hRA.alloc (.cells #[.int .u8 (n' % 256), .int .u8 (n' % 4294967296 / 256 % 256), .int .u8 (n' % 4294967296 / 65536 % 256), .int .u8 (n' % 4294967296 / 16777216)] 5)
          have hN4 := Has.new (wr.alloc (.cells #[.int .u8 ((1 : Nat) : Int), .bool false, .int .i64 n', .string tx, .bool b] 50)) [.int .u8 (n' % 256), .int .u8 (n' % 4294967296 / 256 % 256), .int .u8 (n' % 4294967296 / 65536 % 256), .int .u8 (n' % 4294967296 / 16777216)] 5
          simp only [World.size_alloc] at hN4
          have hby : (n + 4) * 1 ≤ 140737488355328 := by omega
          have hfin : ∀ sa' sc' w2, RowB w 5 1 (n + 4) (bcells (encP ver (l.take k)) ++ [.int .u8 (n' % 256), .int .u8 (n' % 4294967296 / 256 % 256), .int .u8 (n' % 4294967296 / 65536 % 256), .int .u8 (n' % 4294967296 / 16777216)]) sa' sc' w2 → EncR w ver l (k + 1) sa' sc' (n + 4) w2 := by
            intro sa' sc' w2 h
            rw [b4_cells, ← bcells_app, ← he] at h
            exact ⟨by rw [he, List.length_append, hbn]; rfl, h⟩
          obtain ⟨h1, h2⟩ := hnr
          replace he := Lib.hid he
          replace hbn := Lib.hid hbn
          replace hfin := Lib.hid hfin
          clear hN1 hN2 hN3 hev hRA
          go_wp2_with (at_builtin; refine wpList_row rfl (.tmp 42) (.tmp 54) 34 rfl 5 (.int .u8 0) 1 1 Tryz.underlying34 infoU8 rfl (by decide) (by decide) (some ⟨gb, 0, none⟩) n sc (bcells (encP ver (l.take k))) (by exact hRA4) rfl _ 4 4 [.int .u8 (n' % 256), .int .u8 (n' % 4294967296 / 256 % 256), .int .u8 (n' % 4294967296 / 65536 % 256), .int .u8 (n' % 4294967296 / 16777216)] rfl rfl (by exact news_at hN4) (by simp [Value.oneCell']) (by exact hby) ?_)
          intro sa' sc' w2 hR2 _
          have hRC := hfin.out sa' sc' w2 hR2
          replace hRC := Lib.hid hRC
          clear hR2 hfin hRA4 hN4 hN
          go_wp2_with fail
          go_roundw
          case rel => exact ⟨k + 1, sa', sc', n + 4, by omega, by go_num, rfl, hRC.out⟩
          case measure => simp [RowKit.intOf]; omega
        · have hev : encV ⟨2, false, n', tx, b⟩ = (tx.size % 256) :: natsOf tx.data.toList := rfl
          rw [hev] at he
          obtain ⟨W1, hW1⟩ : ∃ W1, W1 = wr.alloc (.cells #[.int .u8 2, .bool false, .int .i64 n', .string tx, .bool b] 50) := ⟨_, rfl⟩
          replace hRA : RowB w 5 1 n (bcells (encP ver (l.take k))) (some ⟨gb, 0, none⟩) sc W1 := by rw [hW1]; exact hRA
          replace hN : Has W1 wr.heap.size [.int .u8 2, .bool false, .int .i64 n', .string tx, .bool b] 50 := by rw [hW1]; exact hN
          have hRD := hRA.below ((Below.refl _ _).drew)
          have x3 : W1.drew.cell? ⟨wr.heap.size, 3, none⟩ = some (.string tx) := hN.drew.cell (o := 3) rfl
          have y0 := hN.cell (o := 0) rfl
          have y1 := hN.cell (o := 1) rfl
          have y3 := hN.cell (o := 3) rfl
          have hRA1 := hRD.alloc (.cells #[.int .u8 (tx.size : Int)] 5)
          have hN4 := Has.new W1.drew [.int .u8 (tx.size : Int)] 5
          have x3b : (W1.drew.alloc (.cells #[.int .u8 (tx.size : Int)] 5)).cell? ⟨wr.heap.size, 3, none⟩ = some (.string tx) := (hN.drew.alloc _).cell (o := 3) rfl
          have x3b2 : (W1.alloc (.cells #[.int .u8 (tx.size : Int)] 5)).cell? ⟨wr.heap.size, 3, none⟩ = some (.string tx) := x3b
          have hby : (n + 1) * 1 ≤ 140737488355328 := by omega
          have hby2 : n + 1 + tx.size ≤ 140737488355328 := by omega
          have hne : gb ≠ wr.heap.size := by omega
          have hkeep : ∀ w2, Only (fun k => Value.ownBlock (.slice (some ⟨gb, 0, none⟩) n sc) = some k) (W1.drew.alloc (.cells #[.int .u8 (tx.size : Int)] 5)) w2 → w2.cell? ⟨wr.heap.size, 3, none⟩ = some (.string tx) := by
            intro w2 ho
            exact ho.cell x3b (fun e => hne (by simpa [Value.ownBlock] using e))
          have hfin : ∀ sa' sc' w2, RowB w 5 1 (n + 1 + tx.size) (bcells (encP ver (l.take k)) ++ [.int .u8 (tx.size : Int)] ++ strCells tx) sa' sc' w2 → EncR w ver l (k + 1) sa' sc' (n + 1 + tx.size) w2 := by
            intro sa' sc' w2 h
            have e1 : [Value.int .u8 (tx.size : Int)] = bcells [tx.size % 256] := by
              have : tx.size % 256 = tx.size := Nat.mod_eq_of_lt (by omega)
              rw [this]; rfl
            rw [e1, str_bcells, ← bcells_app, ← bcells_app, List.append_assoc] at h
            have e2 : encP ver (l.take k) ++ ([tx.size % 256] ++ natsOf tx.data.toList) = encP ver (l.take (k + 1)) := by rw [he]; rfl
            rw [e2] at h
            refine ⟨?_, h⟩
            rw [he, List.length_append, ← hbn, List.length_cons]
            unfold natsOf
            rw [List.length_map, Array.length_toList]
            show n + 1 + tx.size = n + (tx.size + 1)
            omega
          have hwrap : IntKind.u8.wrap (tx.size : Int) = (tx.size : Int) := by
            unfold IntKind.wrap
            have h1 : ((tx.size : Int)) % (2 ^ IntKind.u8.bits : Int) = (tx.size : Int) := Int.emod_eq_of_lt (by omega) (by show (tx.size : Int) < 256; omega)
            simp only [h1]
            rfl
          replace he := Lib.hid he
          replace hbn := Lib.hid hbn
          replace hfin := Lib.hid hfin
          replace hkeep := Lib.hid hkeep
          replace hW1 := Lib.hid hW1
          clear hN1 hN2 hN3 hev hRA hnr hN
          go_upto_region 12 with fail
          rw [← hW1.out]
          go_region_law ((first | (refine step_row (by rfl) _ _ _ (by rfl) 5 (.int .u8 0) 1 1 Tryz.underlying34 infoU8 (by rfl) (by decide) (by decide) (some ⟨gb, 0, none⟩) n sc (bcells (encP ver (l.take k))) (by exact hRA1) (by rfl) _ 1 1 [.int .u8 (tx.size : Int)] (by rfl) (by rfl) (by exact news_at hN4) (by simp [Value.oneCell']) hby ?_; intro sa1 sc1 w1 hR1 only1; have x3c := hkeep.out w1 only1) | (refine step_rowStr (by rfl) _ _ _ _ (by rfl) 5 Tryz.underlying34 Tryz.underlying9 infoU8 sa1 (n + 1) sc1 (bcells (encP ver (l.take k)) ++ [.int .u8 (tx.size : Int)]) (by exact hR1) (by rfl) tx (by rfl) hby2 ?_; intro sa2 sc2 w2 hR2 only2) | (trace_state; fail)))
          all_goals
            have hRC := hfin.out sa2 sc2 w2 hR2
            replace hRC := Lib.hid hRC
            clear hR2 hfin hRD hRA1 hN4 hkeep only1 only2 hR1
            go_wp2_with fail
            go_roundw
            case rel => exact ⟨k + 1, sa2, sc2, n + 1 + tx.size, by omega, by go_num, rfl, hRC.out⟩
            case measure => simp [RowKit.intOf]; omega
        · have hev : encV ⟨3, false, n', tx, b⟩ = [if b then 1 else 0] := rfl
          rw [hev] at he
          have hby : (n + 1) * 1 ≤ 140737488355328 := by omega
          cases b with
          | true =>
            have hRA4 := hRA.alloc (.cells #[.int .u8 1] 5)
            have hN4 := Has.new (wr.alloc (.cells #[.int .u8 ((3 : Nat) : Int), .bool false, .int .i64 n', .string tx, .bool true] 50)) [.int .u8 1] 5
            simp only [World.size_alloc] at hN4
            have hfin : ∀ sa' sc' w2, RowB w 5 1 (n + 1) (bcells (encP ver (l.take k)) ++ [.int .u8 1]) sa' sc' w2 → EncR w ver l (k + 1) sa' sc' (n + 1) w2 := by
              intro sa' sc' w2 h
              have e1 : [Value.int .u8 1] = bcells [if true then 1 else 0] := rfl
              rw [e1, ← bcells_app, ← he] at h
              exact ⟨by rw [he, List.length_append, hbn]; rfl, h⟩
            replace he := Lib.hid he
            replace hbn := Lib.hid hbn
            replace hfin := Lib.hid hfin
            clear hN1 hN2 hN3 hev hRA hnr
            go_wp2_with (at_builtin; refine wpList_row rfl (.tmp 73) (.tmp 74) 34 rfl 5 (.int .u8 0) 1 1 Tryz.underlying34 infoU8 rfl (by decide) (by decide) (some ⟨gb, 0, none⟩) n sc (bcells (encP ver (l.take k))) (by exact hRA4) rfl _ 1 1 [.int .u8 1] rfl rfl (by exact news_at hN4) (by simp [Value.oneCell']) (by exact hby) ?_)
            intro sa' sc' w2 hR2 _
            have hRC := hfin.out sa' sc' w2 hR2
            replace hRC := Lib.hid hRC
            clear hR2 hfin hRA4 hN4 hN
            go_wp2_with fail
            go_roundw
            case rel => exact ⟨k + 1, sa', sc', n + 1, by omega, by go_num, rfl, hRC.out⟩
            case measure => simp [RowKit.intOf]; omega
          | false =>
            have hRA4 := hRA.alloc (.cells #[.int .u8 0] 5)
            have hN4 := Has.new (wr.alloc (.cells #[.int .u8 ((3 : Nat) : Int), .bool false, .int .i64 n', .string tx, .bool false] 50)) [.int .u8 0] 5
            simp only [World.size_alloc] at hN4
            have hfin : ∀ sa' sc' w2, RowB w 5 1 (n + 1) (bcells (encP ver (l.take k)) ++ [.int .u8 0]) sa' sc' w2 → EncR w ver l (k + 1) sa' sc' (n + 1) w2 := by
              intro sa' sc' w2 h
              have e1 : [Value.int .u8 0] = bcells [if false then 1 else 0] := rfl
              rw [e1, ← bcells_app] at h
              rw [if_neg (by simp)] at he
              have e2 : encP ver (l.take k) ++ [if false = true then 1 else 0] = encP ver (l.take (k + 1)) := by rw [he]; rfl
              rw [e2] at h
              exact ⟨by rw [he, List.length_append, hbn]; rfl, h⟩
            replace he := Lib.hid he
            replace hbn := Lib.hid hbn
            replace hfin := Lib.hid hfin
            clear hN1 hN2 hN3 hev hRA hnr
            go_wp2_with (at_builtin; refine wpList_row rfl (.tmp 22) (.tmp 23) 34 rfl 5 (.int .u8 0) 1 1 Tryz.underlying34 infoU8 rfl (by decide) (by decide) (some ⟨gb, 0, none⟩) n sc (bcells (encP ver (l.take k))) (by exact hRA4) rfl _ 1 1 [.int .u8 0] rfl rfl (by exact news_at hN4) (by simp [Value.oneCell']) (by exact hby) ?_)
            intro sa' sc' w2 hR2 _
            have hRC := hfin.out sa' sc' w2 hR2
            replace hRC := Lib.hid hRC
            clear hR2 hfin hRA4 hN4 hN
            go_wp2_with fail
            go_roundw
            case rel => exact ⟨k + 1, sa', sc', n + 1, by omega, by go_num, rfl, hRC.out⟩
            case measure => simp [RowKit.intOf]; omega
    · have hkI : ¬ (k : Int) < l.length := by omega
      have hke : k = l.length := by omega
      have hfin : post (.returned (.slice sa n sc)) wr := by
        rw [← hpost.out]
        have h1 := hR.len
        have h2 := hR.r
        rw [List.take_of_length_le (by omega)] at h1 h2
        subst h1
        exact ⟨sa, sc, rfl, h2⟩
      replace hfin := Lib.hid hfin
      clear hR hke hr hok
      go_wp2_with fail
      first | exact hfin.out | (go_ret; exact hfin.out)
end Go.Proofs.YtpjbcadelmjmfaaGreatDoor
