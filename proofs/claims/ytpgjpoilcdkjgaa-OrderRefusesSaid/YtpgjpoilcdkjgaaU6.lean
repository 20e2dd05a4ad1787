/- The walk of OrderRefuses. -/
import Derived.Test.YtpgjpoilcdkjgaaU5
import Derived.Outline
namespace Go.Proofs.Ytpgjpoilcdkjgaa
open Go.RowKit
theorem MnR.put {b n o : Nat} {wr : World} (h : MnR b n wr) (v : Value) : MnR b n (wr.setCell ⟨b, o, none⟩ v) := by
  obtain ⟨cs, h1, h2⟩ := h
  exact ⟨cs.set o v, by rw [List.length_set]; exact h1, h2.set o v⟩
set_option maxHeartbeats 8000000 in
set_option maxRecDepth 100000 in
theorem refuses_walk (lines : Int) (es : List GE) (hf : ∀ e ∈ es, e.Fit) (aa : Option Addr) (cap : Nat) (w : World) (hr : Rd w (.slice aa es.length cap) es.length (geCells es)) (hreach : es.length * 80 ≤ 140737488351232) :
    Calls Try.prog 8 #[.int .i64 lines, .slice aa es.length cap] w (BoolPost w true) := by
  generalize hpost : BoolPost w true = post
  replace hpost := Lib.hid hpost
  have hi0 : SmR w (es.take 0) 0 none 0 w := ⟨World.ownsRow_nil _ _ _ _, fun k hk => (by cases hk), Below.refl _ _⟩
  replace hi0 := Lib.hid hi0
  go_enter Try.func8, Try.ntmps8
  go_wp2_with fail
  refine (awake_any w).mono ?_
  rintro e w1 ⟨rfl, hB1⟩
  have hi1 := Lib.hid (hi0.out.below hB1)
  clear hi0
  replace hB1 := Lib.hid hB1
  go_wp2_with fail
  go_loopw [5, 21] (fun s i wr => ∃ (k : Nat) (sa : Option Addr) (sc : Nat), k ≤ es.length ∧ i = .int .i64 k ∧ s = .slice sa k sc ∧ SmR w (es.take k) k sa sc wr) (fun _ i _ => es.length - (intOf i).toNat)
  case atStart => exact ⟨0, none, 0, by omega, rfl, rfl, hi1.out⟩
  case round =>
    clear hi1
    obtain ⟨k, sa, sc, hk, rfl, rfl, hR⟩ := hrel
    by_cases hlt : k < es.length
    · have hlI : (k : Int) < es.length := by omega
      obtain ⟨bl, ol, cl, ea, fa⟩ := (hr.kept hR.b).cells (by omega)
      simp only [Value.slice.injEq, true_and] at ea
      obtain ⟨rfl, hcap⟩ := ea
      replace hcap := Lib.hid hcap
      have he := get_of_lt ge0 hlt
      have hfe := hf _ (List.mem_of_getElem? he)
      have htk : es.take (k + 1) = es.take k ++ [es.getD k ge0] := take_getD es k ge0 hlt
      generalize es.getD k ge0 = e at *
      have c0 : wr.cell? ⟨bl, ol + k * 8, none⟩ = _ := fa _ _ (geCells_get es k e he 0 _ rfl)
      have c1 : wr.cell? ⟨bl, ol + k * 8 + 1, none⟩ = _ := fa _ _ (geCells_get es k e he 1 _ rfl)
      have c2 : wr.cell? ⟨bl, ol + k * 8 + 2, none⟩ = _ := fa _ _ (geCells_get es k e he 2 _ rfl)
      have c3 : wr.cell? ⟨bl, ol + k * 8 + 3, none⟩ = _ := fa _ _ (geCells_get es k e he 3 _ rfl)
      have c4 : wr.cell? ⟨bl, ol + k * 8 + 4, none⟩ = _ := fa _ _ (geCells_get es k e he 4 _ rfl)
      have c5 : wr.cell? ⟨bl, ol + k * 8 + 5, none⟩ = _ := fa _ _ (geCells_get es k e he 5 _ rfl)
      have c6 : wr.cell? ⟨bl, ol + k * 8 + 6, none⟩ = _ := fa _ _ (geCells_get es k e he 6 _ rfl)
      have c7 : wr.cell? ⟨bl, ol + k * 8 + 7, none⟩ = _ := fa _ _ (geCells_get es k e he 7 _ rfl)
      have hk256 := hfe.k
      obtain ⟨kk, t, off, val, old, line, en, ca, cl2, cc⟩ := e
      simp only at c0 c1 c2 c3 c4 c5 c6 c7 hk256
      have htd := fun w => told_any kk hk256 t off val old line en ca cl2 cc w
      replace htd := Lib.hid htd
      replace htk := Lib.hid htk
      replace he := Lib.hid he
      have hRA := hR.below ((Below.refl wr.heap.size wr).alloc (Nat.le_refl _) (.cells #[.int .u8 (kk : Int), .int .i64 t, .int .u64 off, .int .u64 val, .int .u64 old, .int .i64 line, .int .i64 en, .slice ca cl2 cc] 65))
      have hby2 : (k + 1) * 64 ≤ 140737488355328 := by omega
      clear fa hR hfe
      replace hRA := Lib.hid hRA
      go_wp2_with fail
      refine (htd.out _).mono ?_
      rintro e' w2 ⟨rfl, hB2⟩
      have hR2 := hRA.out.below hB2
      have hR3 := hR2.below ((Below.refl w2.heap.size w2).alloc (Nat.le_refl _) (.cells #[.int .i64 (kk : Int), .int .i64 t, .int .u64 off, .int .u64 val, .int .u64 old, .int .i64 line, .int .i64 en, .int .i64 (cl2 : Int)] 67))
      have ho := hR3.s
      have hN2 := Has.new w2 [.int .i64 (kk : Int), .int .i64 t, .int .u64 off, .int .u64 val, .int .u64 old, .int .i64 line, .int .i64 en, .int .i64 (cl2 : Int)] 67
      replace hR3 := Lib.hid hR3
      clear hB2 hRA hR2 htd c0 c1 c2 c3 c4 c5 c6 c7
      go_wp2_with (at_builtin; refine wpList_app rfl (.tmp 25) (.tmp 28) 62 rfl 67 (.agg #[.int .i64 0, .int .i64 0, .int .u64 0, .int .u64 0, .int .u64 0, .int .i64 0, .int .i64 0, .int .i64 0]) 8 64 Try.underlying62 info67 rfl (by decide) (by decide) sa k sc (grCells (es.take k)) (by exact ho) rfl _ 1 1 [.int .i64 (kk : Int), .int .i64 t, .int .u64 off, .int .u64 val, .int .u64 old, .int .i64 line, .int .i64 en, .int .i64 (cl2 : Int)] rfl rfl (by exact news_at hN2) (by simp [Value.oneCell']) (by exact hby2) ?_)
      intro sa' sc' w4 own4 only4 fresh4
      have hR4 : SmR w (es.take (k + 1)) (k + 1) sa' sc' w4 := by
        refine ⟨?_, ?_, ?_⟩
        · rw [htk.out, grCells_snoc]; exact own4
        · intro j hj
          rcases fresh4 j hj with h1 | h1
          · exact hR3.out.sb j h1
          · have := hR3.out.b.size; simp only [World.size_alloc] at this h1; omega
        · exact hR3.out.b.trans (only4.below (B := w.heap.size) hR3.out.b.size (fun j _ e => hR3.out.sb j e))
      replace hR4 := Lib.hid hR4
      clear hR3 own4 only4 fresh4 ho hN2
      go_wp2_with fail
      go_roundw
      case rel => first | exact ⟨k + 1, sa', sc', by omega, by go_num, rfl, hR4.out⟩ | ((repeat apply Exists.intro); exact ⟨⟨k + 1, sa', sc', by omega, by go_num, rfl, hR4.out⟩, rfl⟩)
      case measure => simp [intOf]; omega
    · have hkI : ¬ (k : Int) < es.length := by omega
      obtain rfl : k = es.length := by omega
      have hR' : SmR w es es.length sa sc wr := by have h := hR; rw [List.take_of_length_le (Nat.le_refl _)] at h; exact h
      have hck := fun wx (hb : Below wr.heap.size wr wx) => check_any lines es sa sc wx ((Rd.of_own hR'.s).kept hb) (by omega)
      have hrn := hr.kept hR'.b
      have hBw := hR'.b
      clear hR hr
      have hlw : es.length ≤ 9223372036854775807 := by omega
      by_cases hc0 : codeC lines es = 0
      · have hnew : Calls Try.prog 14 #[.int .i64 lines, .slice aa es.length cap] wr fun e w' => (∃ b, e = .returned (.tuple #[.pointer (some ⟨b, 0, none⟩), .int .i64 0])) ∧ Below wr.heap.size wr w' := by
          have hc1 := hc0
          unfold codeC at hc1
          split at hc1
          · cases hc1
          split at hc1
          · cases hc1
          obtain ⟨n, rfl⟩ := Int.eq_ofNat_of_zero_le (a := lines) (by omega)
          obtain ⟨h1, h2⟩ := loopC_ok es hf hc1
          have hn := new_at n (es.map GE.ev) aa cap wr (by omega) (by omega) (by rw [List.length_map]; omega) (by rw [h2, List.length_map]; exact hrn) h1
          rw [List.length_map] at hn
          exact hn.mono fun e w' ⟨g, he, _, hb⟩ => ⟨⟨g, he⟩, hb⟩
        rw [hc0] at hck
        replace hnew := Lib.hid hnew
        replace hck := Lib.hid hck
        replace hc0 := Lib.hid hc0
        replace hR' := Lib.hid hR'
        replace hBw := Lib.hid hBw
        clear hrn
        go_wp2_with fail
        refine hnew.out.mono ?_
        rintro e w2 ⟨⟨b, rfl⟩, hB2⟩
        have hck2 := Lib.hid (hck.out w2 hB2)
        clear hnew hck
        go_wp2_with fail
        refine hck2.out.mono ?_
        rintro e w3 ⟨rfl, hB3⟩
        have hBx := Lib.hid ((hBw.out.trans (hB2.mono hBw.out.size)).trans (hB3.mono (hBw.out.trans (hB2.mono hBw.out.size)).size))
        clear hB2 hB3 hBw hR' hck2 hc0
        obtain ⟨N, hN⟩ : ∃ N : Nat, N = 20001 := ⟨_, rfl⟩
        obtain ⟨wm, hmk0, hbm, hMn⟩ := mk_many N (by omega) w3
        have hmk : (Instr.makeSlice 24 (.int .i64 20001) (.int .i64 20001)).run Try.prog w3 = .ok (.slice (some ⟨w3.heap.size, 0, none⟩) N N) wm := by
          have e1 : (20001 : Int) = (N : Int) := by omega
          rw [e1]; exact hmk0
        have hNlo : 20000 < N := by omega
        have hNhi : N ≤ 9223372036854775807 := by omega
        replace hN := Lib.hid hN
        replace hMn := Lib.hid hMn
        replace hbm := Lib.hid hbm
        clear hmk0
        go_wp2_with fail
        go_loopw [52] (fun i wr => ∃ k : Nat, k ≤ N ∧ i = .int .i64 k ∧ MnR w3.heap.size N wr ∧ Below w3.heap.size w3 wr) (fun i _ => N - (intOf i).toNat)
        case atStart => exact ⟨0, by omega, rfl, hMn.out, hbm.out⟩
        case round =>
          clear hMn hbm hmk
          obtain ⟨k, hk, rfl, ⟨cs, hcl, hH⟩, hbm⟩ := hrel
          by_cases hlt : k < N
          · have hlI : (k : Int) < N := by omega
            have q0 := hH.cell (get_of_lt undef (show k * 8 < cs.length by omega))
            have q1 := hH.cell (get_of_lt undef (show k * 8 + 1 < cs.length by omega))
            have q2 := hH.cell (get_of_lt undef (show k * 8 + 2 < cs.length by omega))
            have q3 := hH.cell (get_of_lt undef (show k * 8 + 3 < cs.length by omega))
            have q4 := hH.cell (get_of_lt undef (show k * 8 + 4 < cs.length by omega))
            have q5 := hH.cell (get_of_lt undef (show k * 8 + 5 < cs.length by omega))
            have q6 := hH.cell (get_of_lt undef (show k * 8 + 6 < cs.length by omega))
            have q7 := hH.cell (get_of_lt undef (show k * 8 + 7 < cs.length by omega))
            have f0 := hH.free (k * 8)
            have f1 := hH.free (k * 8 + 1)
            have f2 := hH.free (k * 8 + 2)
            have f3 := hH.free (k * 8 + 3)
            have f4 := hH.free (k * 8 + 4)
            have f5 := hH.free (k * 8 + 5)
            have f6 := hH.free (k * 8 + 6)
            have f7 := hH.free (k * 8 + 7)
            generalize cs.getD (k * 8) undef = x0 at *
            generalize cs.getD (k * 8 + 1) undef = x1 at *
            generalize cs.getD (k * 8 + 2) undef = x2 at *
            generalize cs.getD (k * 8 + 3) undef = x3 at *
            generalize cs.getD (k * 8 + 4) undef = x4 at *
            generalize cs.getD (k * 8 + 5) undef = x5 at *
            generalize cs.getD (k * 8 + 6) undef = x6 at *
            generalize cs.getD (k * 8 + 7) undef = x7 at *
            replace hcl := Lib.hid hcl
            replace hH := Lib.hid hH
            have hM := Lib.hid (show MnR w3.heap.size N wr from ⟨cs, hcl.out, hH.out⟩)
            replace hbm := Lib.hid hbm
            clear hH hcl
            go_wp2_with fail
            go_roundw
            case rel => exact ⟨k + 1, by omega, by go_num, (((((((hM.out.put _).put _).put _).put _).put _).put _).put _).put _, (((((((hbm.out.setCell (by simp) _).setCell (by simp) _).setCell (by simp) _).setCell (by simp) _).setCell (by simp) _).setCell (by simp) _).setCell (by simp) _).setCell (by simp) _⟩
            case measure => simp [intOf]; omega
          · have hkI : ¬ (k : Int) < N := by omega
            have hnl := Lib.hid (new_long (some ⟨w3.heap.size, 0, none⟩) N N hNlo wr hNhi)
            have hB4 := Lib.hid (hBx.out.trans (hbm.mono hBx.out.size))
            clear hH hcl hbm hBx
            go_wp2_with fail
            refine hnl.out.mono ?_
            rintro e w4 ⟨rfl, hb4⟩
            have hB5 := Lib.hid (hB4.out.trans (hb4.mono hB4.out.size))
            clear hnl hb4 hB4
            go_wp2_with fail
            refine (nil_Of _).mono ?_
            rintro e w5 ⟨rfl, hb5⟩
            have hB6 := Lib.hid ((hB5.out.trans (hb5.mono hB5.out.size)).alloc ((hB5.out.trans (hb5.mono hB5.out.size))).size (.cells #[.int .u64 0, .int .u64 0] 59))
            clear hb5 hB5
            go_wp2_with (first | (go_at_call 33; refine (nil_Count _).mono ?_; rintro e w' ⟨rfl, rfl⟩) | (go_at_call 23; refine (nil_Image _).mono ?_; rintro e w' ⟨rfl, rfl⟩) | (go_at_call 29; refine (nil_Stores _).mono ?_; rintro e w' ⟨rfl, rfl⟩) | (go_at_call 28; refine (nil_Lines _).mono ?_; rintro e w' ⟨rfl, rfl⟩) | (go_at_call 19; refine (nil_Before _).mono ?_; rintro e w' ⟨rfl, rfl⟩) | (go_at_call 18; refine (nil_Closed _ _).mono ?_; rintro e w' ⟨rfl, rfl⟩) | (go_at_call 16; refine (nil_Mandatory _).mono ?_; rintro e w' ⟨rfl, rfl⟩))
            rw [← hpost.out]
            exact ⟨rfl, hB6.out⟩
      · obtain ⟨c, hc⟩ : ∃ c, codeC lines es = c := ⟨_, rfl⟩
        have hnew := newbad_any lines es aa cap wr hrn hlw hc0
        rw [hc] at hnew hck hc0
        have hcb : (c == 0) = false := by rw [beq_eq_false_iff_ne]; exact hc0
        have hcb2 : (c != 0) = true := by rw [bne_iff_ne]; exact hc0
        replace hc0 := Lib.hid hc0
        replace hc := Lib.hid hc
        replace hnew := Lib.hid hnew
        replace hck := Lib.hid hck
        replace hR' := Lib.hid hR'
        replace hBw := Lib.hid hBw
        clear hrn
        go_wp2_with fail
        refine hnew.out.mono ?_
        rintro e w2 ⟨rfl, hB2⟩
        have hck2 := Lib.hid (hck.out w2 hB2)
        clear hnew hck
        go_wp2_with fail
        refine hck2.out.mono ?_
        rintro e w3 ⟨rfl, hB3⟩
        have hBx := Lib.hid ((hBw.out.trans (hB2.mono hBw.out.size)).trans (hB3.mono (hBw.out.trans (hB2.mono hBw.out.size)).size))
        clear hB2 hB3 hBw hR' hck2 hc0
        obtain ⟨N, hN⟩ : ∃ N : Nat, N = 20001 := ⟨_, rfl⟩
        obtain ⟨wm, hmk0, hbm, hMn⟩ := mk_many N (by omega) w3
        have hmk : (Instr.makeSlice 24 (.int .i64 20001) (.int .i64 20001)).run Try.prog w3 = .ok (.slice (some ⟨w3.heap.size, 0, none⟩) N N) wm := by
          have e1 : (20001 : Int) = (N : Int) := by omega
          rw [e1]; exact hmk0
        have hNlo : 20000 < N := by omega
        have hNhi : N ≤ 9223372036854775807 := by omega
        replace hN := Lib.hid hN
        replace hMn := Lib.hid hMn
        replace hbm := Lib.hid hbm
        clear hmk0
        go_wp2_with fail
        go_loopw [52] (fun i wr => ∃ k : Nat, k ≤ N ∧ i = .int .i64 k ∧ MnR w3.heap.size N wr ∧ Below w3.heap.size w3 wr) (fun i _ => N - (intOf i).toNat)
        case atStart => exact ⟨0, by omega, rfl, hMn.out, hbm.out⟩
        case round =>
          clear hMn hbm hmk
          obtain ⟨k, hk, rfl, ⟨cs, hcl, hH⟩, hbm⟩ := hrel
          by_cases hlt : k < N
          · have hlI : (k : Int) < N := by omega
            have q0 := hH.cell (get_of_lt undef (show k * 8 < cs.length by omega))
            have q1 := hH.cell (get_of_lt undef (show k * 8 + 1 < cs.length by omega))
            have q2 := hH.cell (get_of_lt undef (show k * 8 + 2 < cs.length by omega))
            have q3 := hH.cell (get_of_lt undef (show k * 8 + 3 < cs.length by omega))
            have q4 := hH.cell (get_of_lt undef (show k * 8 + 4 < cs.length by omega))
            have q5 := hH.cell (get_of_lt undef (show k * 8 + 5 < cs.length by omega))
            have q6 := hH.cell (get_of_lt undef (show k * 8 + 6 < cs.length by omega))
            have q7 := hH.cell (get_of_lt undef (show k * 8 + 7 < cs.length by omega))
            have f0 := hH.free (k * 8)
            have f1 := hH.free (k * 8 + 1)
            have f2 := hH.free (k * 8 + 2)
            have f3 := hH.free (k * 8 + 3)
            have f4 := hH.free (k * 8 + 4)
            have f5 := hH.free (k * 8 + 5)
            have f6 := hH.free (k * 8 + 6)
            have f7 := hH.free (k * 8 + 7)
            generalize cs.getD (k * 8) undef = x0 at *
            generalize cs.getD (k * 8 + 1) undef = x1 at *
            generalize cs.getD (k * 8 + 2) undef = x2 at *
            generalize cs.getD (k * 8 + 3) undef = x3 at *
            generalize cs.getD (k * 8 + 4) undef = x4 at *
            generalize cs.getD (k * 8 + 5) undef = x5 at *
            generalize cs.getD (k * 8 + 6) undef = x6 at *
            generalize cs.getD (k * 8 + 7) undef = x7 at *
            replace hcl := Lib.hid hcl
            replace hH := Lib.hid hH
            have hM := Lib.hid (show MnR w3.heap.size N wr from ⟨cs, hcl.out, hH.out⟩)
            replace hbm := Lib.hid hbm
            clear hH hcl
            go_wp2_with fail
            go_roundw
            case rel => exact ⟨k + 1, by omega, by go_num, (((((((hM.out.put _).put _).put _).put _).put _).put _).put _).put _, (((((((hbm.out.setCell (by simp) _).setCell (by simp) _).setCell (by simp) _).setCell (by simp) _).setCell (by simp) _).setCell (by simp) _).setCell (by simp) _).setCell (by simp) _⟩
            case measure => simp [intOf]; omega
          · have hkI : ¬ (k : Int) < N := by omega
            have hnl := Lib.hid (new_long (some ⟨w3.heap.size, 0, none⟩) N N hNlo wr hNhi)
            have hB4 := Lib.hid (hBx.out.trans (hbm.mono hBx.out.size))
            clear hH hcl hbm hBx
            go_wp2_with fail
            refine hnl.out.mono ?_
            rintro e w4 ⟨rfl, hb4⟩
            have hB5 := Lib.hid (hB4.out.trans (hb4.mono hB4.out.size))
            clear hnl hb4 hB4
            go_wp2_with fail
            refine (nil_Of _).mono ?_
            rintro e w5 ⟨rfl, hb5⟩
            have hB6 := Lib.hid ((hB5.out.trans (hb5.mono hB5.out.size)).alloc ((hB5.out.trans (hb5.mono hB5.out.size))).size (.cells #[.int .u64 0, .int .u64 0] 59))
            clear hb5 hB5
            go_wp2_with (first | (go_at_call 33; refine (nil_Count _).mono ?_; rintro e w' ⟨rfl, rfl⟩) | (go_at_call 23; refine (nil_Image _).mono ?_; rintro e w' ⟨rfl, rfl⟩) | (go_at_call 29; refine (nil_Stores _).mono ?_; rintro e w' ⟨rfl, rfl⟩) | (go_at_call 28; refine (nil_Lines _).mono ?_; rintro e w' ⟨rfl, rfl⟩) | (go_at_call 19; refine (nil_Before _).mono ?_; rintro e w' ⟨rfl, rfl⟩) | (go_at_call 18; refine (nil_Closed _ _).mono ?_; rintro e w' ⟨rfl, rfl⟩) | (go_at_call 16; refine (nil_Mandatory _).mono ?_; rintro e w' ⟨rfl, rfl⟩))
            rw [← hpost.out]
            exact ⟨rfl, hB6.out⟩
end Go.Proofs.Ytpgjpoilcdkjgaa
