/- The walk of the reference's Encode. -/
import Derived.Test.YtpjbcadelmjmfaaGreatDoorR12
set_option linter.unusedVariables false
namespace Go.Proofs.YtpjbcadelmjmfaaGreatDoor
open Go.RowKit Go.Lib

set_option maxHeartbeats 8000000 in
set_option maxRecDepth 100000 in
theorem rencode_any (ver : Nat) (hver : ver < 65536) (l : List RV) (hok : ∀ v ∈ l, formP v = 0) (h8 : l.length ≤ 8) (a : Option Addr) (c : Nat) (w : World) (hr : Rd w (.slice a l.length c) l.length (rvCells l)) :
    Calls Tryz.prog 22 #[.int .i64 (ver : Int), .slice a l.length c] w (RowPost w 5 1 (encP ver l).length (bcells (encP ver l))) := by
  generalize hpost : RowPost w 5 1 (encP ver l).length (bcells (encP ver l)) = post
  replace hpost := Lib.hid hpost
  have h0 : EncR w ver l 0 (some ⟨w.heap.size, 0, none⟩) 3 3 (w.alloc (.cells #[.int .u8 ((ver : Int) % 256), .int .u8 ((ver : Int) / 256), .int .u8 0] 5)) := by
    refine ⟨rfl, ?_, ?_, (Below.refl _ _).alloc (Nat.le_refl _) _⟩
    · refine ⟨rfl, .inr ⟨w.heap.size, 3, #[.int .u8 ((ver : Int) % 256), .int .u8 ((ver : Int) / 256), .int .u8 0], rfl, Nat.zero_le _, heap_alloc_new, Nat.le_refl _, by unfold maxLen; omega, rfl, ?_⟩⟩
      show [Value.int .u8 ((ver : Int) % 256), .int .u8 ((ver : Int) / 256), .int .u8 0] = [.int .u8 ((ver % 256 : Nat) : Int), .int .u8 ((ver / 256 % 256 : Nat) : Int), .int .u8 ((0 : Nat) : Int)]
      have e : ver / 256 % 256 = ver / 256 := Nat.mod_eq_of_lt (by omega)
      rw [e]
      rfl
    · intro k hk
      simp only [Value.ownBlock, Option.some.injEq] at hk
      omega
  replace h0 := Lib.hid h0
  go_enter Tryz.func22, Tryz.ntmps22
  go_wp2_with fail
  go_loopw [5, 6] (fun p i wr => ∃ (k : Nat) (sa : Option Addr) (sc n : Nat), k ≤ l.length ∧ i = .int .i64 k ∧ p = .slice sa n sc ∧ EncR w ver l k sa sc n wr) (fun _ i _ => l.length - (RowKit.intOf i).toNat)
  case atStart => exact ⟨0, _, _, _, by omega, rfl, rfl, h0.out⟩
  case round =>
    clear h0
    obtain ⟨k, sa, sc, n, hk, rfl, rfl, hR⟩ := hrel
    by_cases hlt : k < l.length
    · have hlI : (k : Int) < l.length := by omega
      obtain ⟨gb, hsa, hgl, n2, hgc, hgf⟩ := hR.head
      subst hsa
      have n2I : 2 < (n : Int) := by omega
      obtain ⟨bl, ol, cl, ea, fa⟩ := (hr.kept hR.r.b).rval hlt
      simp only [Value.slice.injEq, true_and] at ea
      obtain ⟨rfl, hcap⟩ := ea
      replace hcap := Lib.hid hcap
      have hv1 := hok _ (List.mem_of_getElem? (get_lt RV0 hlt))
      have hen := enc_null (ver := ver) hlt
      have hes := enc_some (ver := ver) hlt
      have hbd := enc_bd hok h8 ver k
      have hnb := nulls_lt (l.take k)
      have hkl : (l.take k).length = k := by rw [List.length_take]; omega
      rw [hkl] at hnb
      have hb1 := hR.r
      have hbn := hR.len
      have hc := fun j v hj => fa j v hj
      generalize l.getD k RV0 = v at *
      obtain ⟨ty, nl, n', tx, b⟩ := v
      have c0 : wr.cell? ⟨bl, ol + k * 5, none⟩ = _ := hc 0 _ rfl
      have c1 := hc 1 _ rfl
      have c2 := hc 2 _ rfl
      have c3 := hc 3 _ rfl
      have c4 := hc 4 _ rfl
      have hRA := hb1.alloc (.cells #[.int .i64 (ty : Int), .bool nl, .int .i64 n', .string tx, .bool b] 54)
      have hN := Has.new wr [.int .i64 (ty : Int), .bool nl, .int .i64 n', .string tx, .bool b] 54
      have hbd2 : n ≤ 3 + 201 * 8 := by omega
      cases nl with
      | true =>
        have hor := or_bit k _ (by omega) hnb
        have he := hen rfl
        generalize nulls (l.take k) = nn at *
        have hBx : Below wr.heap.size wr (wr.alloc (.cells #[.int .i64 (ty : Int), .bool true, .int .i64 n', .string tx, .bool b] 54)).drew := below_drew ((Below.refl _ _).alloc (Nat.le_refl _) _)
        have hg2 := cellk hBx hgc
        have hgf2 := (hBx.frozen (p := ⟨gb, 2, none⟩) hgl).trans hgf
        have hor2 : ((nn : Int) + (2 : Int) ^ k) % 256 = ((nn + 2 ^ k : Nat) : Int) := by
          have h1 : 2 ^ k ≤ 2 ^ 7 := Nat.pow_le_pow_right (by omega) (by omega)
          have h2 : ((2 ^ k : Nat) : Int) = (2 : Int) ^ k := by simp
          rw [← h2]
          have h3 : (2 : Nat) ^ 7 = 128 := rfl
          omega
        have hRB := ((hb1.store 2 n2 (.int .u8 ((nn + 2 ^ k : Nat) : Int))).alloc (.cells #[.int .i64 (ty : Int), .bool true, .int .i64 n', .string tx, .bool b] 54)).below ((Below.refl _ _).drew)
        have hRC : EncR w ver l (k + 1) (some ⟨gb, 0, none⟩) sc n (((wr.setCell ⟨gb, 2, none⟩ (.int .u8 (((nn : Int) + (2 : Int) ^ k) % 256))).alloc (.cells #[.int .i64 (ty : Int), .bool true, .int .i64 n', .string tx, .bool b] 54)).drew) := by
          rw [hor2]
          refine ⟨?_, ?_⟩
          · rw [he, List.length_set]; exact hbn
          · rw [he]
            have e : bcells ((encP ver (l.take k)).set 2 (nn + 2 ^ k)) = (bcells (encP ver (l.take k))).set 2 (.int .u8 ((nn + 2 ^ k : Nat) : Int)) := by unfold bcells; rw [List.map_set]
            rw [e]
            exact hRB
        clear hor2
        have hk8 : k < 8 := by omega
        replace hRC := Lib.hid hRC
        replace he := Lib.hid he
        replace hbn := Lib.hid hbn
        replace hor := Lib.hid hor
        clear hc fa hr hok hen hes hbd hkl hRA hN hRB hb1 hR hgc hgf hv1 hnb
        go_upto_region 7 with fail
        refine region_tail 7 (by kernel_rfl) (by kernel_rfl) ?_
        simp only [List.take_succ_cons, List.take_zero, List.drop_succ_cons, List.drop_zero]
        repeat still_step
        refine wpStill_nil ?_
        go_wp2_with fail
        go_roundw
        case rel => exact ⟨k + 1, _, _, _, by omega, by go_num, rfl, hRC.out⟩
        case measure => simp [RowKit.intOf]; omega
      | false =>
        have he := hes rfl
        obtain ⟨hty, hN1, hN2, hN3, hnr, _, hsz⟩ := form_parts hv1
        simp only at hty hN1 hN2 hN3 hnr hsz
        clear hc fa hr hok hen hes hbd hkl hb1 hR hgc hgf hv1 hnb
        obtain rfl | rfl | rfl : ty = 1 ∨ ty = 2 ∨ ty = 3 := by omega
        · have hev : encV ⟨1, false, n', tx, b⟩ = b4 n' := rfl
          rw [hev] at he
          have hRA4 := hRA.alloc (.cells #[.int .u8 (n' % 256), .int .u8 (n' % 4294967296 / 256 % 256), .int .u8 (n' % 4294967296 / 65536 % 256), .int .u8 (n' % 4294967296 / 16777216)] 5)
          have hN4 := Has.new (wr.alloc (.cells #[.int .i64 ((1 : Nat) : Int), .bool false, .int .i64 n', .string tx, .bool b] 54)) [.int .u8 (n' % 256), .int .u8 (n' % 4294967296 / 256 % 256), .int .u8 (n' % 4294967296 / 65536 % 256), .int .u8 (n' % 4294967296 / 16777216)] 5
          simp only [World.size_alloc] at hN4
          have hby : (n + 4) * 1 ≤ 140737488355328 := by omega
          have hfin : ∀ sa' sc' w2, RowB w 5 1 (n + 4) (bcells (encP ver (l.take k)) ++ [.int .u8 (n' % 256), .int .u8 (n' % 4294967296 / 256 % 256), .int .u8 (n' % 4294967296 / 65536 % 256), .int .u8 (n' % 4294967296 / 16777216)]) sa' sc' w2 → EncR w ver l (k + 1) sa' sc' (n + 4) w2 := by
            intro sa' sc' w2 h
            rw [b4_cells, ← bcells_app, ← he] at h
            exact ⟨by rw [he, List.length_append, hbn]; rfl, h⟩
          obtain ⟨h1, h2⟩ := hnr
          replace he := Lib.hid he
          replace hbn := Lib.hid hbn
          replace hfin := Lib.hid hfin
          clear hN1 hN2 hN3 hev hRA
          go_wp2_with (at_builtin; refine wpList_row rfl (.tmp 48) (.tmp 60) 34 rfl 5 (.int .u8 0) 1 1 Tryz.underlying34 infoU8 rfl (by decide) (by decide) (some ⟨gb, 0, none⟩) n sc (bcells (encP ver (l.take k))) (by exact hRA4) rfl _ 4 4 [.int .u8 (n' % 256), .int .u8 (n' % 4294967296 / 256 % 256), .int .u8 (n' % 4294967296 / 65536 % 256), .int .u8 (n' % 4294967296 / 16777216)] rfl rfl (by exact news_at hN4) (by simp [Value.oneCell']) (by exact hby) ?_)
          intro sa' sc' w2 hR2 _
          have hRC := hfin.out sa' sc' w2 hR2
          replace hRC := Lib.hid hRC
          clear hR2 hfin hRA4 hN4 hN
          go_wp2_with fail
          go_roundw
          case rel => exact ⟨k + 1, sa', sc', n + 4, by omega, by go_num, rfl, hRC.out⟩
          case measure => simp [RowKit.intOf]; omega
        · have hev : encV ⟨2, false, n', tx, b⟩ = (tx.size % 256) :: natsOf tx.data.toList := rfl
          rw [hev] at he
          have hRA1 := hRA.alloc (.cells #[.int .u8 (tx.size : Int)] 5)
          have hN4 := Has.new (wr.alloc (.cells #[.int .i64 ((2 : Nat) : Int), .bool false, .int .i64 n', .string tx, .bool b] 54)) [.int .u8 (tx.size : Int)] 5
          have x3b : ((wr.alloc (.cells #[.int .i64 ((2 : Nat) : Int), .bool false, .int .i64 n', .string tx, .bool b] 54)).alloc (.cells #[.int .u8 (tx.size : Int)] 5)).cell? ⟨wr.heap.size, 3, none⟩ = some (.string tx) := (hN.alloc _).cell (o := 3) rfl
          simp only [World.size_alloc] at hN4
          have hby : (n + 1) * 1 ≤ 140737488355328 := by omega
          have hby2 : n + 1 + tx.size ≤ 140737488355328 := by omega
          have hne : gb ≠ wr.heap.size := by omega
          have hkeep : ∀ w2, Only (fun k => Value.ownBlock (.slice (some ⟨gb, 0, none⟩) n sc) = some k) ((wr.alloc (.cells #[.int .i64 ((2 : Nat) : Int), .bool false, .int .i64 n', .string tx, .bool b] 54)).alloc (.cells #[.int .u8 (tx.size : Int)] 5)) w2 → w2.cell? ⟨wr.heap.size, 3, none⟩ = some (.string tx) := by
            intro w2 ho
            exact ho.cell x3b (fun e => hne (by simpa [Value.ownBlock] using e))
          have hfin : ∀ sa' sc' w2, RowB w 5 1 (n + 1 + tx.size) (bcells (encP ver (l.take k)) ++ [.int .u8 (tx.size : Int)] ++ strCells tx) sa' sc' w2 → EncR w ver l (k + 1) sa' sc' (n + 1 + tx.size) w2 := by
            intro sa' sc' w2 h
            have e1 : [Value.int .u8 (tx.size : Int)] = bcells [tx.size % 256] := by
              have : tx.size % 256 = tx.size := Nat.mod_eq_of_lt (by omega)
              rw [this]; rfl
            rw [e1, str_bcells, ← bcells_app, ← bcells_app, List.append_assoc] at h
            have e2 : encP ver (l.take k) ++ ([tx.size % 256] ++ natsOf tx.data.toList) = encP ver (l.take (k + 1)) := by rw [he]; rfl
            rw [e2] at h
            refine ⟨?_, h⟩
            rw [he, List.length_append, ← hbn, List.length_cons]
            unfold natsOf
            rw [List.length_map, Array.length_toList]
            show n + 1 + tx.size = n + (tx.size + 1)
            omega
          replace he := Lib.hid he
          replace hbn := Lib.hid hbn
          replace hfin := Lib.hid hfin
          replace hkeep := Lib.hid hkeep
          clear hN1 hN2 hN3 hev hRA hnr
          go_wp2_with (at_builtin; refine wpList_row rfl (.tmp 64) (.tmp 69) 34 rfl 5 (.int .u8 0) 1 1 Tryz.underlying34 infoU8 rfl (by decide) (by decide) (some ⟨gb, 0, none⟩) n sc (bcells (encP ver (l.take k))) (by exact hRA1) rfl _ 1 1 [.int .u8 (tx.size : Int)] rfl rfl (by exact news_at hN4) (by simp [Value.oneCell']) (by exact hby) ?_)
          intro sa1 sc1 w2 hR2 only1
          have x3 := hkeep.out w2 only1
          clear hkeep only1 hRA1 hN4 hN x3b
          go_wp2_with (at_builtin; refine wpList_rowStr rfl (.tmp 71) (.tmp 73) 34 9 rfl 5 Tryz.underlying34 Tryz.underlying9 infoU8 sa1 (n + 1) sc1 _ (by exact hR2) rfl tx rfl (by exact hby2) ?_)
          intro sa2 sc2 w3 hR3 _
          have hRC := hfin.out sa2 sc2 w3 (by simpa using hR3)
          replace hRC := Lib.hid hRC
          clear hR2 hR3 hfin
          go_wp2_with fail
          go_roundw
          case rel => exact ⟨k + 1, sa2, sc2, n + 1 + tx.size, by omega, by go_num, rfl, hRC.out⟩
          case measure => simp [RowKit.intOf]; omega
        · have hev : encV ⟨3, false, n', tx, b⟩ = [if b then 1 else 0] := rfl
          rw [hev] at he
          have hby : (n + 1) * 1 ≤ 140737488355328 := by omega
          cases b with
          | true =>
            have hRA4 := hRA.alloc (.cells #[.int .u8 1] 5)
            have hN4 := Has.new (wr.alloc (.cells #[.int .i64 ((3 : Nat) : Int), .bool false, .int .i64 n', .string tx, .bool true] 54)) [.int .u8 1] 5
            simp only [World.size_alloc] at hN4
            have hfin : ∀ sa' sc' w2, RowB w 5 1 (n + 1) (bcells (encP ver (l.take k)) ++ [.int .u8 1]) sa' sc' w2 → EncR w ver l (k + 1) sa' sc' (n + 1) w2 := by
              intro sa' sc' w2 h
              have e1 : [Value.int .u8 1] = bcells [if true then 1 else 0] := rfl
              rw [e1, ← bcells_app, ← he] at h
              exact ⟨by rw [he, List.length_append, hbn]; rfl, h⟩
            replace he := Lib.hid he
            replace hbn := Lib.hid hbn
            replace hfin := Lib.hid hfin
            clear hN1 hN2 hN3 hev hRA hnr
            go_wp2_with (at_builtin; refine wpList_row rfl (.tmp 39) (.tmp 41) 34 rfl 5 (.int .u8 0) 1 1 Tryz.underlying34 infoU8 rfl (by decide) (by decide) (some ⟨gb, 0, none⟩) n sc (bcells (encP ver (l.take k))) (by exact hRA4) rfl _ 1 1 [.int .u8 1] rfl rfl (by exact news_at hN4) (by simp [Value.oneCell']) (by exact hby) ?_)
            intro sa' sc' w2 hR2 _
            have hRC := hfin.out sa' sc' w2 hR2
            replace hRC := Lib.hid hRC
            clear hR2 hfin hRA4 hN4 hN
            go_wp2_with fail
            go_roundw
            case rel => exact ⟨k + 1, sa', sc', n + 1, by omega, by go_num, rfl, hRC.out⟩
            case measure => simp [RowKit.intOf]; omega
          | false =>
            have hRA4 := hRA.alloc (.cells #[.int .u8 0] 5)
            have hN4 := Has.new (wr.alloc (.cells #[.int .i64 ((3 : Nat) : Int), .bool false, .int .i64 n', .string tx, .bool false] 54)) [.int .u8 0] 5
            simp only [World.size_alloc] at hN4
            have hfin : ∀ sa' sc' w2, RowB w 5 1 (n + 1) (bcells (encP ver (l.take k)) ++ [.int .u8 0]) sa' sc' w2 → EncR w ver l (k + 1) sa' sc' (n + 1) w2 := by
              intro sa' sc' w2 h
              have e1 : [Value.int .u8 0] = bcells [if false then 1 else 0] := rfl
              rw [e1, ← bcells_app] at h
              rw [if_neg (by simp)] at he
              have e2 : encP ver (l.take k) ++ [if false = true then 1 else 0] = encP ver (l.take (k + 1)) := by rw [he]; rfl
              rw [e2] at h
              exact ⟨by rw [he, List.length_append, hbn]; rfl, h⟩
            replace he := Lib.hid he
            replace hbn := Lib.hid hbn
            replace hfin := Lib.hid hfin
            clear hN1 hN2 hN3 hev hRA hnr
            go_wp2_with (at_builtin; refine wpList_row rfl (.tmp 39) (.tmp 41) 34 rfl 5 (.int .u8 0) 1 1 Tryz.underlying34 infoU8 rfl (by decide) (by decide) (some ⟨gb, 0, none⟩) n sc (bcells (encP ver (l.take k))) (by exact hRA4) rfl _ 1 1 [.int .u8 0] rfl rfl (by exact news_at hN4) (by simp [Value.oneCell']) (by exact hby) ?_)
            intro sa' sc' w2 hR2 _
            have hRC := hfin.out sa' sc' w2 hR2
            replace hRC := Lib.hid hRC
            clear hR2 hfin hRA4 hN4 hN
            go_wp2_with fail
            go_roundw
            case rel => exact ⟨k + 1, sa', sc', n + 1, by omega, by go_num, rfl, hRC.out⟩
            case measure => simp [RowKit.intOf]; omega
    · have hkI : ¬ (k : Int) < l.length := by omega
      have hke : k = l.length := by omega
      have hfin : post (.returned (.slice sa n sc)) wr := by
        rw [← hpost.out]
        have h1 := hR.len
        have h2 := hR.r
        rw [List.take_of_length_le (by omega)] at h1 h2
        subst h1
        exact ⟨sa, sc, rfl, h2⟩
      replace hfin := Lib.hid hfin
      clear hR hke hr hok
      go_wp2_with fail
      first | exact hfin.out | (go_ret; exact hfin.out)
end Go.Proofs.YtpjbcadelmjmfaaGreatDoor
