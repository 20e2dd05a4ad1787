/- The reference's device: Content (the walk), Current. -/
import Derived.Test.YtikjpklbbjmioaaE9
namespace Go.Proofs.Ytikjpklbbjmioaa
open Go.RowKit Go.Maps
variable {w : World} {F : Own} {o h T : Nat} {R : Dv}

theorem infoByte : (Try.prog.info? 5).map (fun i => (i.zero, i.size, i.bytes)) = some (some (.int .u8 0), 1, 1) := by kernel_rfl
theorem index_ag0 (x0 x1 x2 x3 x4 x5 x6 x7 : Value) (w : World) : (Instr.index 119 (.agg #[x0, x1, x2, x3, x4, x5, x6, x7]) (.int .i64 0)).run Try.prog w = .ok x0 w := by kernel_rfl
theorem index_ag1 (x0 x1 x2 x3 x4 x5 x6 x7 : Value) (w : World) : (Instr.index 119 (.agg #[x0, x1, x2, x3, x4, x5, x6, x7]) (.int .i64 1)).run Try.prog w = .ok x1 w := by kernel_rfl
theorem index_ag2 (x0 x1 x2 x3 x4 x5 x6 x7 : Value) (w : World) : (Instr.index 119 (.agg #[x0, x1, x2, x3, x4, x5, x6, x7]) (.int .i64 2)).run Try.prog w = .ok x2 w := by kernel_rfl
theorem index_ag3 (x0 x1 x2 x3 x4 x5 x6 x7 : Value) (w : World) : (Instr.index 119 (.agg #[x0, x1, x2, x3, x4, x5, x6, x7]) (.int .i64 3)).run Try.prog w = .ok x3 w := by kernel_rfl
theorem index_ag4 (x0 x1 x2 x3 x4 x5 x6 x7 : Value) (w : World) : (Instr.index 119 (.agg #[x0, x1, x2, x3, x4, x5, x6, x7]) (.int .i64 4)).run Try.prog w = .ok x4 w := by kernel_rfl
theorem index_ag5 (x0 x1 x2 x3 x4 x5 x6 x7 : Value) (w : World) : (Instr.index 119 (.agg #[x0, x1, x2, x3, x4, x5, x6, x7]) (.int .i64 5)).run Try.prog w = .ok x5 w := by kernel_rfl
theorem index_ag6 (x0 x1 x2 x3 x4 x5 x6 x7 : Value) (w : World) : (Instr.index 119 (.agg #[x0, x1, x2, x3, x4, x5, x6, x7]) (.int .i64 6)).run Try.prog w = .ok x6 w := by kernel_rfl
theorem index_ag7 (x0 x1 x2 x3 x4 x5 x6 x7 : Value) (w : World) : (Instr.index 119 (.agg #[x0, x1, x2, x3, x4, x5, x6, x7]) (.int .i64 7)).run Try.prog w = .ok x7 w := by kernel_rfl
theorem index_aggI (ws : List Nat) (j : Nat) (hj : j < 8) (w : World) : (Instr.index 119 (aggW ws) (.int .i64 (j : Int))).run Try.prog w = .ok (.int .u64 ((wat ws j : Nat) : Int)) w := by
  match j, hj with
  | 0, _ => exact index_ag0 _ _ _ _ _ _ _ _ w
  | 1, _ => exact index_ag1 _ _ _ _ _ _ _ _ w
  | 2, _ => exact index_ag2 _ _ _ _ _ _ _ _ w
  | 3, _ => exact index_ag3 _ _ _ _ _ _ _ _ w
  | 4, _ => exact index_ag4 _ _ _ _ _ _ _ _ w
  | 5, _ => exact index_ag5 _ _ _ _ _ _ _ _ w
  | 6, _ => exact index_ag6 _ _ _ _ _ _ _ _ w
  | 7, _ => exact index_ag7 _ _ _ _ _ _ _ _ w
def rowC (l : Ln) (v : Value) : List Value := [.int .u64 ((wat l.base 0 : Nat) : Int), .int .u64 ((wat l.base 1 : Nat) : Int), .int .u64 ((wat l.base 2 : Nat) : Int), .int .u64 ((wat l.base 3 : Nat) : Int), .int .u64 ((wat l.base 4 : Nat) : Int), .int .u64 ((wat l.base 5 : Nat) : Int), .int .u64 ((wat l.base 6 : Nat) : Int), .int .u64 ((wat l.base 7 : Nat) : Int), v, .int .i64 (l.done : Int)]
theorem conTo_len (hok : R.Ok T) (ks : List Nat) (n : Nat) (hn : n ≤ R.lines.length) : (conTo R ks n).length = n * 8 := by
  induction n with
  | zero => rfl
  | succ n ih => rw [conTo_succ, List.length_append, ih (by omega), wordsL_len, (hok.ln n (by omega)).b]; omega
/-- The last of a word's bytes, and the next word. -/
theorem bytes_full (B : List Nat) (ws : List Nat) (x : Nat) (hB : B = bytesL ws) : B ++ byteTo x 8 = bytesL (ws ++ [x]) := by rw [hB, bytesL_snoc]

set_option maxHeartbeats 8000000 in
set_option maxRecDepth 100000 in
theorem rcontent_any (hr : RefSt w F o h T R) (ka : Option Addr) (kc : Nat) (ks : List Nat) (hks : Rd w (.slice ka ks.length kc) ks.length (nats ks)) (hkl : ∀ l, l < R.lines.length → kOf R ks l ≤ (R.line l).hist.length) (hkn : ks.length ≤ 100000) :
    Calls Try.prog 55 #[.pointer (some ⟨h, 0, none⟩), .slice ka ks.length kc] w (NewBytes w (bytesL (crashW R (kOf R ks)))) := by
  generalize hpost : NewBytes w (bytesL (crashW R (kOf R ks))) = post
  have hn2 := hr.ok.n2
  have hok := hr.ok
  have ht100 := hr.ok.t
  obtain ⟨lb, lc, ns, h1, h2, h3, _⟩ := hr.ex
  have c := h1.cell (refCells_lines lb lc ns R)
  have hlt1 := h1.lt
  have h0 : Grow w (w.alloc (.cells #[] 5)) 5 (some ⟨w.heap.size, 0, none⟩) (bytesL (conTo R ks 0)).length 0 (u8s (bytesL (conTo R ks 0))) := Grow.empty w 5
  have hlines := fun (i : Nat) (hi : i < R.lines.length) => h2.cells hi
  have hlb : lb < w.heap.size := by obtain ⟨cs, _, x, _⟩ := h2; exact ownsRow_lt x (k := lb) rfl
  have hcl := conTo_len hok ks
  have hall := conTo_all R ks
  replace hpost := Lib.hid hpost
  replace hall := Lib.hid hall
  replace hcl := Lib.hid hcl
  clear hr h2
  go_enter Try.func55, Try.ntmps55
  go_wp2_with fail
  go_loopw [5, 6, 19] (fun v i6 i wr => ∃ (k : Nat) (a : Option Addr) (c : Nat), k ≤ R.lines.length ∧ i = .int .i64 k ∧ i6 = .int .i64 ((dirtyTo R k).length : Nat) ∧ v = .slice a (bytesL (conTo R ks k)).length c ∧ Grow w wr 5 a (bytesL (conTo R ks k)).length c (u8s (bytesL (conTo R ks k)))) (fun _ _ i _ => R.lines.length - (intOf i).toNat)
  case atStart => exact ⟨0, _, 0, Nat.zero_le _, rfl, rfl, rfl, h0⟩
  case round =>
    clear h0 c
    obtain ⟨k, a, cc, hk, rfl, rfl, rfl, hG⟩ := hrel
    by_cases hlt : k < R.lines.length
    · have hkI : (k : Int) < (R.lines.length : Int) := by omega
      have hk0 : (0 : Int) ≤ (k : Int) := by omega
      obtain ⟨va, vc, hlc, hrd⟩ := hlines k hlt
      obtain ⟨c0, c1, c2, c3, c4, c5, c6, c7, c8, c9⟩ := hlc.only (Only.of_below hG.b) (Nat.not_le.2 hlb)
      have hrd := hrd.1.kept hG.b
      have hokl := hok.ln k hlt
      have hhl := hokl.hl
      have hnext := dirtyTo_next R k
      have hdl := dirtyTo_len R k
      have hkk := hkl k hlt
      have hL := hcl.out k (by omega)
      have hbl := bytesL_len (conTo R ks k)
      have hRow := Has.new wr (rowC (R.line k) (.slice va (R.line k).hist.length vc)) 122
      have b0 := hRow.cell (o := 0) rfl
      have b1 := hRow.cell (o := 1) rfl
      have b2 := hRow.cell (o := 2) rfl
      have b3 := hRow.cell (o := 3) rfl
      have b4 := hRow.cell (o := 4) rfl
      have b5 := hRow.cell (o := 5) rfl
      have b6 := hRow.cell (o := 6) rfl
      have b7 := hRow.cell (o := 7) rfl
      have b8 := hRow.cell (o := 8) rfl
      have b9 := hRow.cell (o := 9) rfl
      have hG1 := hG.alloc (.cells (rowC (R.line k) (.slice va (R.line k).hist.length vc)).toArray 122)
      have hwd : ∀ q : Int, q = ((kOf R ks k : Nat) : Int) → ∀ w', Below wr.heap.size wr w' → Calls Try.prog 101 #[.agg (rowC (R.line k) (.slice va (R.line k).hist.length vc)).toArray, .int .i64 q] w' (WordsPost w' (wordsL (R.line k) (kOf R ks k))) := by
        intro q hq w' hB
        subst hq
        exact words_any w' (R.line k) (kOf R ks k) va vc hokl.b hkk (by omega) (hrd.kept hB) (fun p hp => by obtain ⟨q1, q2, q3⟩ := hokl.h p hp; omega) ((R.line k).done : Int)
      have hwl : (wordsL (R.line k) (kOf R ks k)).length = 8 := by rw [wordsL_len]; exact hokl.b
      have hwlt := hokl.words (kOf R ks k)
      have htk := conTo_take R ks k
      have hsucc := conTo_succ R ks k
      have hBa := (Below.refl wr.heap.size wr).alloc (Nat.le_refl _) (.cells (rowC (R.line k) (.slice va (R.line k).hist.length vc)).toArray 122)
      have hko : kOf R ks k = if 0 < (R.line k).hist.length then (if (dirtyTo R k).length < ks.length then wat ks (dirtyTo R k).length else 0) else 0 := rfl
      have hksr := hks.kept (hG.b.trans (hBa.mono hG.b.size))
      simp only [rowC] at hBa hG1 hwd hRow hksr
      generalize hll : R.line k = l at *
      generalize hkv : kOf R ks k = kv at *
      generalize hwsl : wordsL l kv = ws at *
      generalize hdd : (dirtyTo R k).length = dn at *
      generalize hcc : conTo R ks k = pre at *
      have hG2 : Grow w (wr.alloc (.cells (rowC l (.slice va l.hist.length vc)).toArray 122)) 5 a (bytesL (pre ++ ws.take 0)).length cc (u8s (bytesL (pre ++ ws.take 0))) := by simpa [rowC] using hG1
      simp only [rowC] at hG2
      replace hwd := Lib.hid hwd
      replace hwl := Lib.hid hwl
      replace htk := Lib.hid htk
      replace hsucc := Lib.hid hsucc
      replace hko := Lib.hid hko
      replace hnext := Lib.hid hnext
      replace hL := Lib.hid hL
      replace hbl := Lib.hid hbl
      replace hll := Lib.hid hll
      replace hkv := Lib.hid hkv
      replace hwsl := Lib.hid hwsl
      replace hdd := Lib.hid hdd
      replace hcc := Lib.hid hcc
      replace hBa := Lib.hid hBa
      replace hG2 := Lib.hid hG2
      clear hRow hlc hrd hG1 hokl hkk hkl hlines
      have hdI : (dn : Int) < 4097 := by omega
      have hthree : (¬ 0 < l.hist.length ∧ kv = 0) ∨ (0 < l.hist.length ∧ ¬ dn < ks.length ∧ kv = 0) ∨ (0 < l.hist.length ∧ dn < ks.length ∧ kv = wat ks dn) := by
        have := hko.out
        by_cases e1 : 0 < l.hist.length
        · rw [if_pos e1] at this
          by_cases e2 : dn < ks.length
          · rw [if_pos e2] at this; exact .inr (.inr ⟨e1, e2, this⟩)
          · rw [if_neg e2] at this; exact .inr (.inl ⟨e1, e2, this⟩)
        · rw [if_neg e1] at this; exact .inl ⟨e1, this⟩
      rcases hthree with ⟨e1, hkq⟩ | ⟨e1, e2, hkq⟩ | ⟨e1, e2, hkq⟩
      case inl =>
        have e1I : ¬ (0 : Int) < ((l.hist.length : Nat) : Int) := by omega
        replace hkq := Lib.hid hkq
        replace hksr := Lib.hid hksr
        go_wp2_with fail
        refine (hwd.out 0 (by rw [hkq.out]; rfl) _ hBa.out).mono ?_
        rintro e w1 ⟨rfl, hBw⟩
        have hG3 := hG2.out.below hBw
        replace hG3 := Lib.hid hG3
        clear hBw c0 c1 c2 c3 c4 c5 c6 c7 c8 c9 b0 b1 b2 b3 b4 b5 b6 b7 b8 b9 hwd hBa hksr hG
        go_wp2_with fail
        go_loopw [5, 40] (fun v j wr => ∃ (m : Nat) (a : Option Addr) (c : Nat), m ≤ 8 ∧ j = .int .i64 m ∧ v = .slice a (bytesL (pre ++ ws.take m)).length c ∧ Grow w wr 5 a (bytesL (pre ++ ws.take m)).length c (u8s (bytesL (pre ++ ws.take m)))) (fun _ j _ => 8 - (intOf j).toNat)
        case atStart => exact ⟨0, _, cc, by omega, rfl, by simp, hG3.out⟩
        case round =>
          obtain ⟨m, am, cm, hm, rfl, rfl, hGm⟩ := hrel
          by_cases hm8 : m < 8
          · have em : decide ((m : Int) < 8) = true := by simp; omega
            have hm0 : (0 : Int) ≤ (m : Int) := by omega
            have hix := fun w => index_aggI ws m hm8 w
            have hx64 : wat ws m < 18446744073709551616 := hwlt _ (List.mem_of_getElem? (get_of_lt 0 (by rw [hwl.out]; exact hm8)))
            have htm := htk.out m (by rw [hwl.out]; exact hm8)
            have hlen : (bytesL (pre ++ ws.take m)).length ≤ 300000 := by
              rw [bytesL_len, List.length_append, List.length_take, hL.out]; omega
            have hwm : wrap64 ((m : Int) + 1) = (m : Int) + 1 := (by unfold wrap64; omega)
            have hGm0 : Grow w wr 5 am (bytesL (pre ++ ws.take m) ++ byteTo (wat ws m) 0).length cm (u8s (bytesL (pre ++ ws.take m) ++ byteTo (wat ws m) 0)) := by simpa [byteTo] using hGm
            replace htm := Lib.hid htm
            generalize hxx : wat ws m = x at *
            generalize hBB : bytesL (pre ++ ws.take m) = B at *
            replace hxx := Lib.hid hxx
            replace hBB := Lib.hid hBB
            replace hGm0 := Lib.hid hGm0
            replace hm8 := Lib.hid hm8
            replace hm := Lib.hid hm
            replace hwm := Lib.hid hwm
            clear hGm
            go_wp2_with fail
            go_loopw [5, 11, 12] (fun v wv b wr => ∃ (b' : Nat) (a : Option Addr) (c : Nat), b' ≤ 8 ∧ b = .int .i64 b' ∧ wv = .int .u64 ((x / 256 ^ b' : Nat) : Int) ∧ v = .slice a (B ++ byteTo x b').length c ∧ Grow w wr 5 a (B ++ byteTo x b').length c (u8s (B ++ byteTo x b'))) (fun _ _ b _ => 8 - (intOf b).toNat)
            case atStart => exact ⟨0, am, cm, by omega, rfl, by simp, by simp [byteTo], hGm0.out⟩
            case round =>
              clear hix
              obtain ⟨b, ab, cb, hb, rfl, rfl, rfl, hGb⟩ := hrel
              by_cases hb8 : b < 8
              · have eb : decide ((b : Int) < 8) = true := by simp; omega
                have hb0 : (0 : Int) ≤ (b : Int) := by omega
                have hy1 : x / 256 ^ (b + 1) = x / 256 ^ b / 256 := by rw [Nat.pow_succ, Nat.div_div_eq_div_mul]
                have hy64 : x / 256 ^ b < 18446744073709551616 := Nat.lt_of_le_of_lt (Nat.div_le_self _ _) hx64
                have hbs := byteTo_succ x b
                have hBl : (B ++ byteTo x b).length ≤ 300008 := by rw [List.length_append, byteTo_len]; omega
                have hcat : B ++ byteTo x (b + 1) = (B ++ byteTo x b) ++ [x / 256 ^ b % 256] := by rw [hbs, List.append_assoc]
                generalize hXX : B ++ byteTo x b = X at *
                generalize hyy : x / 256 ^ b = y at *
                have hyI : (y : Int) < 18446744073709551616 := by omega
                have hby : (X.length + 1) * 1 ≤ 140737488355328 := by omega
                have hwb : wrap64 ((b : Int) + 1) = (b : Int) + 1 := (by unfold wrap64; omega)
                replace hy1 := Lib.hid hy1
                replace hbs := Lib.hid hbs
                replace hcat := Lib.hid hcat
                replace hXX := Lib.hid hXX
                replace hyy := Lib.hid hyy
                replace hb8 := Lib.hid hb8
                replace hb := Lib.hid hb
                replace hwb := Lib.hid hwb
                go_wp2_with (at_builtin; go_loud (refine wpList_app1 rfl (.tmp 47) (.tmp 50) 31 rfl 5 (.int .u8 0) 1 Try.underlying31 infoU8 rfl (by decide) ab X.length cb (u8s X) rfl (.int .u8 ((y : Int) % 256)) _ _ rfl rfl hGb.own _ rfl rfl (by simp [Value.oneCell']) hby ?_); intro sa cap w2 own2 only2 fresh2)
                have hG4 := hGb.app own2 only2 fresh2
                have hG5 : Grow w w2 5 sa (B ++ byteTo x (b + 1)).length cap (u8s (B ++ byteTo x (b + 1))) := by
                  rw [hcat.out, u8s_snoc]; simpa using hG4
                have hrel : ∃ (b' : Nat) (a : Option Addr) (c : Nat), b' ≤ 8 ∧ Value.int .i64 ((b : Int) + 1) = .int .i64 b' ∧ Value.int .u64 ((y : Int) / 256) = .int .u64 ((x / 256 ^ b' : Nat) : Int) ∧ Value.slice sa (X.length + 1) cap = .slice a (B ++ byteTo x b').length c ∧ Grow w w2 5 a (B ++ byteTo x b').length c (u8s (B ++ byteTo x b')) := by
                  refine ⟨b + 1, sa, cap, by have := hb8.out; omega, by go_num, ?_, ?_, hG5⟩
                  · rw [hy1.out]; simp
                  · rw [hcat.out]; simp
                replace hrel := Lib.hid hrel
                clear own2 only2 fresh2 hG4 hG5 hGb
                go_wp2_with fail
                go_roundw
                case rel => rw [hwb.out]; exact hrel.out
                case measure => have := hb8.out; rw [hwb.out]; simp [intOf]; omega
              · obtain rfl : b = 8 := by omega
                have hG6 : Grow w wr 5 ab (bytesL (pre ++ ws.take (m + 1))).length cb (u8s (bytesL (pre ++ ws.take (m + 1)))) := by
                  rw [htm.out, bytesL_snoc, hBB.out]; exact hGb
                have hsl : Value.slice ab (B ++ byteTo x 8).length cb = .slice ab (bytesL (pre ++ ws.take (m + 1))).length cb := by rw [htm.out, bytesL_snoc, hBB.out]
                replace hsl := Lib.hid hsl
                replace hG6 := Lib.hid hG6
                clear hGb
                go_wp2_with fail
                go_roundw
                case rel => rw [hwm.out]; exact ⟨m + 1, ab, cb, by have := hm8.out; omega, by go_num, hsl.out, hG6.out⟩
                case measure => have := hm8.out; rw [hwm.out]; simp [intOf]; omega
          · obtain rfl : m = 8 := by omega
            have ht8 : ws.take 8 = ws := by rw [← hwl.out, List.take_length]
            rw [ht8, ← hsucc.out] at hGm
            have hsl : Value.slice am (bytesL (pre ++ ws.take 8)).length cm = .slice am (bytesL (conTo R ks (k + 1))).length cm := by rw [ht8, ← hsucc.out]
            have hn' := hnext.out
            have hrel : ∃ (k' : Nat) (a : Option Addr) (c : Nat), k' ≤ R.lines.length ∧ Value.int .i64 ((k : Int) + 1) = .int .i64 k' ∧ Value.int .i64 ((dn : Int)) = .int .i64 ((dirtyTo R k').length : Nat) ∧ Value.slice am (bytesL (pre ++ ws.take 8)).length cm = .slice a (bytesL (conTo R ks k')).length c ∧ Grow w wr 5 a (bytesL (conTo R ks k')).length c (u8s (bytesL (conTo R ks k'))) := by
              refine ⟨k + 1, am, cm, by omega, by go_num, ?_, hsl, hGm⟩
              rw [hn', if_neg e1]
            replace hrel := Lib.hid hrel
            replace hsl := Lib.hid hsl
            replace ht8 := Lib.hid ht8
            replace hn' := Lib.hid hn'
            clear hGm
            go_wp2_with fail
            go_roundw
            case rel => exact hrel.out
            case measure => simp [intOf]; omega
      case inr.inl =>
        have e1I : (0 : Int) < ((l.hist.length : Nat) : Int) := by omega
        have e2I : ¬ (dn : Int) < ((ks.length : Nat) : Int) := by omega
        replace hkq := Lib.hid hkq
        replace hksr := Lib.hid hksr
        go_wp2_with fail
        refine (hwd.out 0 (by rw [hkq.out]; rfl) _ hBa.out).mono ?_
        rintro e w1 ⟨rfl, hBw⟩
        have hG3 := hG2.out.below hBw
        replace hG3 := Lib.hid hG3
        clear hBw c0 c1 c2 c3 c4 c5 c6 c7 c8 c9 b0 b1 b2 b3 b4 b5 b6 b7 b8 b9 hwd hBa hksr hG
        go_wp2_with fail
        go_loopw [5, 40] (fun v j wr => ∃ (m : Nat) (a : Option Addr) (c : Nat), m ≤ 8 ∧ j = .int .i64 m ∧ v = .slice a (bytesL (pre ++ ws.take m)).length c ∧ Grow w wr 5 a (bytesL (pre ++ ws.take m)).length c (u8s (bytesL (pre ++ ws.take m)))) (fun _ j _ => 8 - (intOf j).toNat)
        case atStart => exact ⟨0, _, cc, by omega, rfl, by simp, hG3.out⟩
        case round =>
          obtain ⟨m, am, cm, hm, rfl, rfl, hGm⟩ := hrel
          by_cases hm8 : m < 8
          · have em : decide ((m : Int) < 8) = true := by simp; omega
            have hm0 : (0 : Int) ≤ (m : Int) := by omega
            have hix := fun w => index_aggI ws m hm8 w
            have hx64 : wat ws m < 18446744073709551616 := hwlt _ (List.mem_of_getElem? (get_of_lt 0 (by rw [hwl.out]; exact hm8)))
            have htm := htk.out m (by rw [hwl.out]; exact hm8)
            have hlen : (bytesL (pre ++ ws.take m)).length ≤ 300000 := by
              rw [bytesL_len, List.length_append, List.length_take, hL.out]; omega
            have hwm : wrap64 ((m : Int) + 1) = (m : Int) + 1 := (by unfold wrap64; omega)
            have hGm0 : Grow w wr 5 am (bytesL (pre ++ ws.take m) ++ byteTo (wat ws m) 0).length cm (u8s (bytesL (pre ++ ws.take m) ++ byteTo (wat ws m) 0)) := by simpa [byteTo] using hGm
            replace htm := Lib.hid htm
            generalize hxx : wat ws m = x at *
            generalize hBB : bytesL (pre ++ ws.take m) = B at *
            replace hxx := Lib.hid hxx
            replace hBB := Lib.hid hBB
            replace hGm0 := Lib.hid hGm0
            replace hm8 := Lib.hid hm8
            replace hm := Lib.hid hm
            replace hwm := Lib.hid hwm
            clear hGm
            go_wp2_with fail
            go_loopw [5, 11, 12] (fun v wv b wr => ∃ (b' : Nat) (a : Option Addr) (c : Nat), b' ≤ 8 ∧ b = .int .i64 b' ∧ wv = .int .u64 ((x / 256 ^ b' : Nat) : Int) ∧ v = .slice a (B ++ byteTo x b').length c ∧ Grow w wr 5 a (B ++ byteTo x b').length c (u8s (B ++ byteTo x b'))) (fun _ _ b _ => 8 - (intOf b).toNat)
            case atStart => exact ⟨0, am, cm, by omega, rfl, by simp, by simp [byteTo], hGm0.out⟩
            case round =>
              clear hix
              obtain ⟨b, ab, cb, hb, rfl, rfl, rfl, hGb⟩ := hrel
              by_cases hb8 : b < 8
              · have eb : decide ((b : Int) < 8) = true := by simp; omega
                have hb0 : (0 : Int) ≤ (b : Int) := by omega
                have hy1 : x / 256 ^ (b + 1) = x / 256 ^ b / 256 := by rw [Nat.pow_succ, Nat.div_div_eq_div_mul]
                have hy64 : x / 256 ^ b < 18446744073709551616 := Nat.lt_of_le_of_lt (Nat.div_le_self _ _) hx64
                have hbs := byteTo_succ x b
                have hBl : (B ++ byteTo x b).length ≤ 300008 := by rw [List.length_append, byteTo_len]; omega
                have hcat : B ++ byteTo x (b + 1) = (B ++ byteTo x b) ++ [x / 256 ^ b % 256] := by rw [hbs, List.append_assoc]
                generalize hXX : B ++ byteTo x b = X at *
                generalize hyy : x / 256 ^ b = y at *
                have hyI : (y : Int) < 18446744073709551616 := by omega
                have hby : (X.length + 1) * 1 ≤ 140737488355328 := by omega
                have hwb : wrap64 ((b : Int) + 1) = (b : Int) + 1 := (by unfold wrap64; omega)
                replace hy1 := Lib.hid hy1
                replace hbs := Lib.hid hbs
                replace hcat := Lib.hid hcat
                replace hXX := Lib.hid hXX
                replace hyy := Lib.hid hyy
                replace hb8 := Lib.hid hb8
                replace hb := Lib.hid hb
                replace hwb := Lib.hid hwb
                go_wp2_with (at_builtin; go_loud (refine wpList_app1 rfl (.tmp 47) (.tmp 50) 31 rfl 5 (.int .u8 0) 1 Try.underlying31 infoU8 rfl (by decide) ab X.length cb (u8s X) rfl (.int .u8 ((y : Int) % 256)) _ _ rfl rfl hGb.own _ rfl rfl (by simp [Value.oneCell']) hby ?_); intro sa cap w2 own2 only2 fresh2)
                have hG4 := hGb.app own2 only2 fresh2
                have hG5 : Grow w w2 5 sa (B ++ byteTo x (b + 1)).length cap (u8s (B ++ byteTo x (b + 1))) := by
                  rw [hcat.out, u8s_snoc]; simpa using hG4
                have hrel : ∃ (b' : Nat) (a : Option Addr) (c : Nat), b' ≤ 8 ∧ Value.int .i64 ((b : Int) + 1) = .int .i64 b' ∧ Value.int .u64 ((y : Int) / 256) = .int .u64 ((x / 256 ^ b' : Nat) : Int) ∧ Value.slice sa (X.length + 1) cap = .slice a (B ++ byteTo x b').length c ∧ Grow w w2 5 a (B ++ byteTo x b').length c (u8s (B ++ byteTo x b')) := by
                  refine ⟨b + 1, sa, cap, by have := hb8.out; omega, by go_num, ?_, ?_, hG5⟩
                  · rw [hy1.out]; simp
                  · rw [hcat.out]; simp
                replace hrel := Lib.hid hrel
                clear own2 only2 fresh2 hG4 hG5 hGb
                go_wp2_with fail
                go_roundw
                case rel => rw [hwb.out]; exact hrel.out
                case measure => have := hb8.out; rw [hwb.out]; simp [intOf]; omega
              · obtain rfl : b = 8 := by omega
                have hG6 : Grow w wr 5 ab (bytesL (pre ++ ws.take (m + 1))).length cb (u8s (bytesL (pre ++ ws.take (m + 1)))) := by
                  rw [htm.out, bytesL_snoc, hBB.out]; exact hGb
                have hsl : Value.slice ab (B ++ byteTo x 8).length cb = .slice ab (bytesL (pre ++ ws.take (m + 1))).length cb := by rw [htm.out, bytesL_snoc, hBB.out]
                replace hsl := Lib.hid hsl
                replace hG6 := Lib.hid hG6
                clear hGb
                go_wp2_with fail
                go_roundw
                case rel => rw [hwm.out]; exact ⟨m + 1, ab, cb, by have := hm8.out; omega, by go_num, hsl.out, hG6.out⟩
                case measure => have := hm8.out; rw [hwm.out]; simp [intOf]; omega
          · obtain rfl : m = 8 := by omega
            have ht8 : ws.take 8 = ws := by rw [← hwl.out, List.take_length]
            rw [ht8, ← hsucc.out] at hGm
            have hsl : Value.slice am (bytesL (pre ++ ws.take 8)).length cm = .slice am (bytesL (conTo R ks (k + 1))).length cm := by rw [ht8, ← hsucc.out]
            have hn' := hnext.out
            have hrel : ∃ (k' : Nat) (a : Option Addr) (c : Nat), k' ≤ R.lines.length ∧ Value.int .i64 ((k : Int) + 1) = .int .i64 k' ∧ Value.int .i64 ((dn : Int) + 1) = .int .i64 ((dirtyTo R k').length : Nat) ∧ Value.slice am (bytesL (pre ++ ws.take 8)).length cm = .slice a (bytesL (conTo R ks k')).length c ∧ Grow w wr 5 a (bytesL (conTo R ks k')).length c (u8s (bytesL (conTo R ks k'))) := by
              refine ⟨k + 1, am, cm, by omega, by go_num, ?_, hsl, hGm⟩
              rw [hn', if_pos e1]; simp
            replace hrel := Lib.hid hrel
            replace hsl := Lib.hid hsl
            replace ht8 := Lib.hid ht8
            replace hn' := Lib.hid hn'
            clear hGm
            go_wp2_with fail
            go_roundw
            case rel => exact hrel.out
            case measure => simp [intOf]; omega
      case inr.inr =>
        have e1I : (0 : Int) < ((l.hist.length : Nat) : Int) := by omega
        have e2I : (dn : Int) < ((ks.length : Nat) : Int) := by omega
        have e20 : (0 : Int) ≤ (dn : Int) := by omega
        obtain ⟨bl, ol, cl, ea, fa⟩ := hksr.cells (by omega)
        simp only [Value.slice.injEq, true_and] at ea
        obtain ⟨rfl, hcap⟩ := ea
        replace hcap := Lib.hid hcap
        have ck : World.cell? _ ⟨bl, ol + dn, none⟩ = _ := fa _ _ (nats_get ks dn (wat ks dn) (get_of_lt 0 e2))
        clear fa
        replace hkq := Lib.hid hkq
        generalize wat ks dn = kq at *
        replace hksr := Lib.hid hksr
        go_wp2_with fail
        refine (hwd.out _ (by rw [hkq.out]) _ hBa.out).mono ?_
        rintro e w1 ⟨rfl, hBw⟩
        have hG3 := hG2.out.below hBw
        replace hG3 := Lib.hid hG3
        clear hBw c0 c1 c2 c3 c4 c5 c6 c7 c8 c9 b0 b1 b2 b3 b4 b5 b6 b7 b8 b9 hwd hBa hksr hG
        go_wp2_with fail
        go_loopw [5, 40] (fun v j wr => ∃ (m : Nat) (a : Option Addr) (c : Nat), m ≤ 8 ∧ j = .int .i64 m ∧ v = .slice a (bytesL (pre ++ ws.take m)).length c ∧ Grow w wr 5 a (bytesL (pre ++ ws.take m)).length c (u8s (bytesL (pre ++ ws.take m)))) (fun _ j _ => 8 - (intOf j).toNat)
        case atStart => exact ⟨0, _, cc, by omega, rfl, by simp, hG3.out⟩
        case round =>
          obtain ⟨m, am, cm, hm, rfl, rfl, hGm⟩ := hrel
          by_cases hm8 : m < 8
          · have em : decide ((m : Int) < 8) = true := by simp; omega
            have hm0 : (0 : Int) ≤ (m : Int) := by omega
            have hix := fun w => index_aggI ws m hm8 w
            have hx64 : wat ws m < 18446744073709551616 := hwlt _ (List.mem_of_getElem? (get_of_lt 0 (by rw [hwl.out]; exact hm8)))
            have htm := htk.out m (by rw [hwl.out]; exact hm8)
            have hlen : (bytesL (pre ++ ws.take m)).length ≤ 300000 := by
              rw [bytesL_len, List.length_append, List.length_take, hL.out]; omega
            have hwm : wrap64 ((m : Int) + 1) = (m : Int) + 1 := (by unfold wrap64; omega)
            have hGm0 : Grow w wr 5 am (bytesL (pre ++ ws.take m) ++ byteTo (wat ws m) 0).length cm (u8s (bytesL (pre ++ ws.take m) ++ byteTo (wat ws m) 0)) := by simpa [byteTo] using hGm
            replace htm := Lib.hid htm
            generalize hxx : wat ws m = x at *
            generalize hBB : bytesL (pre ++ ws.take m) = B at *
            replace hxx := Lib.hid hxx
            replace hBB := Lib.hid hBB
            replace hGm0 := Lib.hid hGm0
            replace hm8 := Lib.hid hm8
            replace hm := Lib.hid hm
            replace hwm := Lib.hid hwm
            clear hGm
            go_wp2_with fail
            go_loopw [5, 11, 12] (fun v wv b wr => ∃ (b' : Nat) (a : Option Addr) (c : Nat), b' ≤ 8 ∧ b = .int .i64 b' ∧ wv = .int .u64 ((x / 256 ^ b' : Nat) : Int) ∧ v = .slice a (B ++ byteTo x b').length c ∧ Grow w wr 5 a (B ++ byteTo x b').length c (u8s (B ++ byteTo x b'))) (fun _ _ b _ => 8 - (intOf b).toNat)
            case atStart => exact ⟨0, am, cm, by omega, rfl, by simp, by simp [byteTo], hGm0.out⟩
            case round =>
              clear hix
              obtain ⟨b, ab, cb, hb, rfl, rfl, rfl, hGb⟩ := hrel
              by_cases hb8 : b < 8
              · have eb : decide ((b : Int) < 8) = true := by simp; omega
                have hb0 : (0 : Int) ≤ (b : Int) := by omega
                have hy1 : x / 256 ^ (b + 1) = x / 256 ^ b / 256 := by rw [Nat.pow_succ, Nat.div_div_eq_div_mul]
                have hy64 : x / 256 ^ b < 18446744073709551616 := Nat.lt_of_le_of_lt (Nat.div_le_self _ _) hx64
                have hbs := byteTo_succ x b
                have hBl : (B ++ byteTo x b).length ≤ 300008 := by rw [List.length_append, byteTo_len]; omega
                have hcat : B ++ byteTo x (b + 1) = (B ++ byteTo x b) ++ [x / 256 ^ b % 256] := by rw [hbs, List.append_assoc]
                generalize hXX : B ++ byteTo x b = X at *
                generalize hyy : x / 256 ^ b = y at *
                have hyI : (y : Int) < 18446744073709551616 := by omega
                have hby : (X.length + 1) * 1 ≤ 140737488355328 := by omega
                have hwb : wrap64 ((b : Int) + 1) = (b : Int) + 1 := (by unfold wrap64; omega)
                replace hy1 := Lib.hid hy1
                replace hbs := Lib.hid hbs
                replace hcat := Lib.hid hcat
                replace hXX := Lib.hid hXX
                replace hyy := Lib.hid hyy
                replace hb8 := Lib.hid hb8
                replace hb := Lib.hid hb
                replace hwb := Lib.hid hwb
                go_wp2_with (at_builtin; go_loud (refine wpList_app1 rfl (.tmp 47) (.tmp 50) 31 rfl 5 (.int .u8 0) 1 Try.underlying31 infoU8 rfl (by decide) ab X.length cb (u8s X) rfl (.int .u8 ((y : Int) % 256)) _ _ rfl rfl hGb.own _ rfl rfl (by simp [Value.oneCell']) hby ?_); intro sa cap w2 own2 only2 fresh2)
                have hG4 := hGb.app own2 only2 fresh2
                have hG5 : Grow w w2 5 sa (B ++ byteTo x (b + 1)).length cap (u8s (B ++ byteTo x (b + 1))) := by
                  rw [hcat.out, u8s_snoc]; simpa using hG4
                have hrel : ∃ (b' : Nat) (a : Option Addr) (c : Nat), b' ≤ 8 ∧ Value.int .i64 ((b : Int) + 1) = .int .i64 b' ∧ Value.int .u64 ((y : Int) / 256) = .int .u64 ((x / 256 ^ b' : Nat) : Int) ∧ Value.slice sa (X.length + 1) cap = .slice a (B ++ byteTo x b').length c ∧ Grow w w2 5 a (B ++ byteTo x b').length c (u8s (B ++ byteTo x b')) := by
                  refine ⟨b + 1, sa, cap, by have := hb8.out; omega, by go_num, ?_, ?_, hG5⟩
                  · rw [hy1.out]; simp
                  · rw [hcat.out]; simp
                replace hrel := Lib.hid hrel
                clear own2 only2 fresh2 hG4 hG5 hGb
                go_wp2_with fail
                go_roundw
                case rel => rw [hwb.out]; exact hrel.out
                case measure => have := hb8.out; rw [hwb.out]; simp [intOf]; omega
              · obtain rfl : b = 8 := by omega
                have hG6 : Grow w wr 5 ab (bytesL (pre ++ ws.take (m + 1))).length cb (u8s (bytesL (pre ++ ws.take (m + 1)))) := by
                  rw [htm.out, bytesL_snoc, hBB.out]; exact hGb
                have hsl : Value.slice ab (B ++ byteTo x 8).length cb = .slice ab (bytesL (pre ++ ws.take (m + 1))).length cb := by rw [htm.out, bytesL_snoc, hBB.out]
                replace hsl := Lib.hid hsl
                replace hG6 := Lib.hid hG6
                clear hGb
                go_wp2_with fail
                go_roundw
                case rel => rw [hwm.out]; exact ⟨m + 1, ab, cb, by have := hm8.out; omega, by go_num, hsl.out, hG6.out⟩
                case measure => have := hm8.out; rw [hwm.out]; simp [intOf]; omega
          · obtain rfl : m = 8 := by omega
            have ht8 : ws.take 8 = ws := by rw [← hwl.out, List.take_length]
            rw [ht8, ← hsucc.out] at hGm
            have hsl : Value.slice am (bytesL (pre ++ ws.take 8)).length cm = .slice am (bytesL (conTo R ks (k + 1))).length cm := by rw [ht8, ← hsucc.out]
            have hn' := hnext.out
            have hrel : ∃ (k' : Nat) (a : Option Addr) (c : Nat), k' ≤ R.lines.length ∧ Value.int .i64 ((k : Int) + 1) = .int .i64 k' ∧ Value.int .i64 ((dn : Int) + 1) = .int .i64 ((dirtyTo R k').length : Nat) ∧ Value.slice am (bytesL (pre ++ ws.take 8)).length cm = .slice a (bytesL (conTo R ks k')).length c ∧ Grow w wr 5 a (bytesL (conTo R ks k')).length c (u8s (bytesL (conTo R ks k'))) := by
              refine ⟨k + 1, am, cm, by omega, by go_num, ?_, hsl, hGm⟩
              rw [hn', if_pos e1]; simp
            replace hrel := Lib.hid hrel
            replace hsl := Lib.hid hsl
            replace ht8 := Lib.hid ht8
            replace hn' := Lib.hid hn'
            clear hGm
            go_wp2_with fail
            go_roundw
            case rel => exact hrel.out
            case measure => simp [intOf]; omega
    · obtain rfl : k = R.lines.length := by omega
      have hx : post (.returned (.slice a (bytesL (conTo R ks R.lines.length)).length cc)) wr := by rw [← hpost.out, ← hall.out]; exact ⟨a, cc, rfl, hG⟩
      replace hx := Lib.hid hx
      clear hG
      go_wp2_with fail
      exact hx.out
end Go.Proofs.Ytikjpklbbjmioaa
