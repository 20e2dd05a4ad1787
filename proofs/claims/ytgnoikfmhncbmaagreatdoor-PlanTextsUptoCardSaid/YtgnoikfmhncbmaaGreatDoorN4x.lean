/- What few laws use. -/
import Derived.Test.YtgnoikfmhncbmaaGreatDoorN4
set_option linter.unusedVariables false
set_option linter.unusedSimpArgs false
set_option linter.unusedVariables false
namespace Go.Proofs.YtgnoikfmhncbmaaGreatDoor
open Go.RowKit Go.Lib
theorem ba_data (l : List UInt8) : (ba l).data.toList = l := rfl
theorem ba_dat (a b : List UInt8) : (⟨(ba a).data ++ (ba b).data⟩ : ByteArray) = ba (a ++ b) := by
  apply ba_eq
  simp [ba]
def numM (t s : Value) : Nat := (RowKit.intOf t).toNat * 2 + (match s with | .string b => if b.size = 0 then 1 else 0 | _ => 0)
theorem numM_of (m : Nat) (l : List UInt8) : numM (.int .i64 (m : Int)) (.string (ba l)) = m * 2 + if l = [] then 1 else 0 := by
  unfold numM
  have e : (ba l).size = l.length := by rw [ba, mk_size]
  simp [RowKit.intOf, e]
set_option maxHeartbeats 4000000 in
set_option maxRecDepth 100000 in
theorem rnum_pos (n : Nat) (hn : n ≤ 2147483648) (w : World) :
    Calls Tryz.prog 38 #[.int .i64 (n : Int)] w (RPost w (.string (ba (decDigits n)))) := by
  have hnI : ¬ (n : Int) < 0 := by omega
  go_enter Tryz.func38, Tryz.ntmps38
  go_wp2_with fail
  go_loopw [0, 3] (fun t s wx => ∃ (m : Nat) (l : List UInt8), t = .int .i64 m ∧ s = .string (ba l) ∧ NumR n m l ∧ Below w.heap.size w wx) (fun t s _ => numM t s)
  case atStart => exact ⟨n, [], rfl, rfl, .inl ⟨rfl, rfl⟩, Below.refl _ _⟩
  case round =>
    obtain ⟨m, l, rfl, rfl, hR, hB⟩ := hrel
    obtain ⟨hl, hm⟩ := hR.len hn
    by_cases hgo : 0 < m ∨ l = []
    · have hst := hR.step hgo
      have hs1 : ((ba l).toList == ([] : List UInt8)) = decide (l = []) := by rw [beqL]; rfl
      have hd : 48 + m % 10 < 256 := by omega
      obtain ⟨d, hde⟩ : ∃ d, d = 48 + m % 10 := ⟨_, rfl⟩
      have hdI : (48 : Int) + (m : Int) % 10 = (d : Int) := by omega
      have hcv := fun wx (hx : Rd wx (.slice (some ⟨wr.heap.size, 0, none⟩) [d].length 1) [d].length (bcells [d])) => conv_rd hx (by intro x hx; simp at hx; omega) (by simp)
      have hcv2 := hcv (wr.alloc (.cells #[.int .u8 (d : Int)] 5)) (Rd.of_has (Has.new wr [.int .u8 (d : Int)] 5) 1 1)
      have hcv3 : (convert 74 9 (.slice (some ⟨wr.heap.size, 0, none⟩) 1 1)).run Tryz.prog (wr.alloc (.cells #[.int .u8 (d : Int)] 5)) = .ok (.string (strOfNats [d])) (wr.alloc (.cells #[.int .u8 (d : Int)] 5)) := hcv2
      have hB2 : Below w.heap.size w (wr.alloc (.cells #[.int .u8 (d : Int)] 5)) := hB.alloc hB.size _
      rw [← hde] at hst
      have hcat : strOfNats [d] ++ ba l = ba (UInt8.ofNat d :: l) := by
        show ba (bytesOf [d]) ++ ba l = _
        rw [ba_app]; rfl
      have z1 : ¬ 9223372036854775807 < (strOfNats [d]).size + (ba l).size := by
        have e1 : (strOfNats [d]).size = 1 := rfl
        have e2 : (ba l).size = l.length := by rw [ba, mk_size]
        omega
      replace hB2 := Lib.hid hB2
      replace hst := Lib.hid hst
      replace hcat := Lib.hid hcat
      replace hde := Lib.hid hde
      generalize strOfNats [d] = sd at *
      clear hcv hcv2 hR hB
      by_cases hm0 : 0 < m
      · have hmI : (m : Int) > 0 := by omega
        clear hgo
        go_wp2_with fail
        go_round
        case rel => exact ⟨m / 10, _, by go_num, by rw [hcat.out], hst.out, hB2.out⟩
        case measure =>
          rw [hcat.out]
          have h1 := numM_of m l
          have h2 := numM_of (m / 10) (UInt8.ofNat d :: l)
          have e3 : ((m / 10 : Nat) : Int) = (m : Int) / 10 := by omega
          rw [e3, if_neg (by simp)] at h2
          rw [h1, h2]
          split <;> omega
      · have hmI : ¬ (m : Int) > 0 := by omega
        have hle : l = [] := by
          rcases hgo with h | h
          · omega
          · exact h
        subst hle
        clear hgo
        go_wp2_with fail
        go_round
        case rel => exact ⟨m / 10, _, by go_num, by rw [hcat.out], hst.out, hB2.out⟩
        case measure =>
          rw [hcat.out]
          have h1 := numM_of m []
          have h2 := numM_of (m / 10) [UInt8.ofNat d]
          have e3 : ((m / 10 : Nat) : Int) = (m : Int) / 10 := by omega
          rw [e3, if_neg (by simp)] at h2
          rw [if_pos rfl] at h1
          rw [h1, h2]
          omega
    · have h1 : ¬ 0 < m := fun h => hgo (.inl h)
      have h2 : l ≠ [] := fun h => hgo (.inr h)
      have hmI : ¬ (m : Int) > 0 := by omega
      have hs1 : ((ba l).toList == ([] : List UInt8)) = false := by rw [beqL]; exact decide_eq_false h2
      have hd := hR.done h1 h2
      replace hd := Lib.hid hd
      replace h2 := Lib.hid h2
      replace hB := Lib.hid hB
      clear hgo hR h1
      go_wp2_with fail
      go_ret
      exact ⟨by rw [hd.out]; rfl, hB.out⟩
set_option maxHeartbeats 4000000 in
theorem rnum_any (n : Int) (h1 : -2147483648 ≤ n) (h2 : n < 2147483648) (w : World) :
    Calls Tryz.prog 38 #[.int .i64 n] w (RPost w (.string (ba (itoa n)))) := by
  by_cases hn : n < 0
  · have hp := rnum_pos n.natAbs (by omega) w
    have he : ((n.natAbs : Nat) : Int) = -n := by omega
    rw [he] at hp
    have hi : itoa n = 45 :: decDigits n.natAbs := by unfold itoa; rw [if_pos hn]
    have hl : (decDigits n.natAbs).length ≤ 20 := by
      rw [decDigits_length]
      exact nDigits_le20 _ (by omega)
    rw [hi]
    generalize decDigits n.natAbs = dl at *
    have z1 : (ba dl).size ≤ 20 := by rw [ba, mk_size]; exact hl
    have z2 : ¬ 9223372036854775807 < (⟨#[45]⟩ : ByteArray).size + (ba dl).size := by
      have e1 : (⟨#[45]⟩ : ByteArray).size = 1 := rfl
      omega
    have hcat : (⟨#[45]⟩ : ByteArray) ++ ba dl = ba (45 :: dl) := by
      show ba [45] ++ ba dl = _
      rw [ba_app]; rfl
    rw [← hcat]
    replace hp := Lib.hid hp
    replace hcat := Lib.hid hcat
    replace hi := Lib.hid hi
    replace he := Lib.hid he
    go_enter Tryz.func38, Tryz.ntmps38
    go_wp2_with fail
    refine hp.out.mono ?_
    rintro e w1 ⟨rfl, hb1⟩
    replace hb1 := Lib.hid hb1
    go_wp2_with fail
    go_ret
    exact ⟨rfl, hb1.out⟩
  · have hp := rnum_pos n.toNat (by omega) w
    have he : ((n.toNat : Nat) : Int) = n := by omega
    rw [he] at hp
    have hi : itoa n = decDigits n.toNat := by unfold itoa; rw [if_neg hn]
    rw [hi]
    exact hp
def dblB (s : ByteArray) (k : Nat) : List UInt8 := 39 :: dbl (s.data.toList.take k)
theorem dbl_app : ∀ a b : List UInt8, dbl (a ++ b) = dbl a ++ dbl b
  | [], b => rfl
  | c :: a, b => by
    have ih := dbl_app a b
    rw [List.cons_append]
    simp only [dbl]
    split <;> rw [ih] <;> rfl
theorem dblB_len (s : ByteArray) (k : Nat) : (ba (dblB s k)).size ≤ 2 * s.size + 1 := by
  have h := dbl_len (s.data.toList.take k)
  have h2 : (s.data.toList.take k).length ≤ s.size := by
    rw [List.length_take]
    have : s.data.toList.length = s.size := by simp
    omega
  rw [ba, mk_size, dblB, List.length_cons]
  omega
theorem dblB_step (s : ByteArray) (k : Nat) (h : k < s.size) (c : UInt8) (hc : s.data.toList.getD k 0 = c) : dblB s (k + 1) = dblB s k ++ (if c = 39 then [39, 39] else [c]) := by
  have hl : k < s.data.toList.length := by simpa using h
  have e : s.data.toList.take (k + 1) = s.data.toList.take k ++ [c] := by rw [take_getD s.data.toList k 0 hl, hc]
  unfold dblB
  rw [e, dbl_app, List.cons_append]
  congr 2
theorem piece1 (s : ByteArray) (k : Nat) (h : k < s.size) (c : UInt8) (hc : s.data.toList.getD k 0 = c) : s.extract k (k + 1) = ba [c] := by
  apply ba_eq
  have hl : k < s.data.toList.length := by simpa using h
  rw [extract_data, ba_data]
  rw [Nat.add_sub_cancel_left]
  have e := List.drop_eq_getElem_cons hl
  rw [e]
  have h3 : s.data.toList[k] = c := by rw [← hc, List.getD, List.getElem?_eq_getElem hl]; rfl
  rw [h3]; rfl
set_option maxHeartbeats 4000000 in
set_option maxRecDepth 100000 in
theorem rtext_any (ta : Nat) (na : Bool) (ia : Int) (xa : ByteArray) (bv : Bool) (hsa : xa.size ≤ 9223372036854775807) (w : World) :
    Calls Tryz.prog 65 #[.agg #[.int .i64 (ta : Int), .bool na, .int .i64 ia, .string xa, .bool bv]] w (RPost w (.string (ba (textP ⟨ta, na, ia, xa, bv⟩)))) := by
  obtain ⟨W, hW⟩ : ∃ W, W = w.alloc (.cells #[.int .i64 (ta : Int), .bool na, .int .i64 ia, .string xa, .bool bv] 33) := ⟨_, rfl⟩
  have hA : Has W w.heap.size [.int .i64 (ta : Int), .bool na, .int .i64 ia, .string xa, .bool bv] 33 := by rw [hW]; exact Has.new w _ 33
  have hBW : Below w.heap.size w W := by rw [hW]; exact (Below.refl _ _).alloc (Nat.le_refl _) _
  have hva := rform_any ta na ia xa bv hsa W
  have hfin : ∀ x, textP ⟨ta, na, ia, xa, bv⟩ = x → ∀ w', Below W.heap.size W w' → RPost w (.string (ba (textP ⟨ta, na, ia, xa, bv⟩))) (.returned (.string (ba x))) w' := by
    intro x h1 w' hb
    rw [h1]
    exact ⟨rfl, hBW.trans (hb.mono hBW.size)⟩
  have hX : textP ⟨ta, na, ia, xa, bv⟩ = if formP ⟨ta, na, ia, xa, bv⟩ ≠ 0 then [] else if na then nullL else if ta = 1 then itoa ia else if ta = 2 then 39 :: dbl xa.data.toList ++ [39] else if bv then trueL else falseL := rfl
  have hfp := @form_parts ⟨ta, na, ia, xa, bv⟩
  generalize textP ⟨ta, na, ia, xa, bv⟩ = tp at *
  generalize RPost w (.string (ba tp)) = post at *
  generalize formP ⟨ta, na, ia, xa, bv⟩ = fp at *
  have kA := fun w' (hb : Below W.heap.size W w') => hA.only (Only.of_below hb) (Nat.not_le.2 hA.lt)
  have a0 := hA.cell (o := 0) rfl
  have a1 := hA.cell (o := 1) rfl
  have a2 := hA.cell (o := 2) rfl
  have a3 := hA.cell (o := 3) rfl
  have a4 := hA.cell (o := 4) rfl
  replace hW := Lib.hid hW
  replace hva := Lib.hid hva
  replace hfin := Lib.hid hfin
  replace kA := Lib.hid kA
  replace hBW := Lib.hid hBW
  clear hA
  by_cases hf : fp = 0
  · rw [if_neg (by simpa using hf)] at hX
    obtain ⟨⟨t1, t2⟩, n1, x1, c1, ⟨n2, n3⟩, _, sz⟩ := hfp hf
    simp only at t1 t2 n1 x1 c1 n2 n3 sz
    subst hf
    replace hX := Lib.hid hX
    replace n1 := Lib.hid n1
    replace x1 := Lib.hid x1
    replace c1 := Lib.hid c1
    clear hfp
    go_enter Tryz.func65, Tryz.ntmps65
    go_upto_region 1 with fail
    rw [← hW.out]
    go_wp2_with fail
    refine hva.out.mono ?_
    rintro e w1 ⟨rfl, hb1⟩
    clear a0 a1 a2 a3 a4 hva
    have ka := kA.out w1 hb1
    have a0 := ka.cell (o := 0) rfl
    have a1 := ka.cell (o := 1) rfl
    have a2 := ka.cell (o := 2) rfl
    have a3 := ka.cell (o := 3) rfl
    have a4 := ka.cell (o := 4) rfl
    clear ka
    cases na with
    | true =>
      have hg := hfin.out nullL (by rw [hX.out]; rfl) w1 hb1
      replace hg := Lib.hid hg
      clear hb1
      go_wp2_with fail
      first | exact hg.out | (go_ret; exact hg.out)
    | false =>
      obtain rfl | rfl | rfl : ta = 1 ∨ ta = 2 ∨ ta = 3 := by omega
      · have hg := fun w2 hb2 => hfin.out (itoa ia) (by rw [hX.out]; rfl) w2 hb2
        have hc := rnum_any ia n2 n3 w1
        replace hg := Lib.hid hg
        replace hc := Lib.hid hc
        replace hb1 := Lib.hid hb1
        go_wp2_with fail
        refine hc.out.mono ?_
        rintro e w2 ⟨rfl, hb12⟩
        have hg2 := hg.out w2 (hb1.out.trans (hb12.mono hb1.out.size))
        replace hg2 := Lib.hid hg2
        clear hb12
        go_wp2_with fail
        first | exact hg2.out | (go_ret; exact hg2.out)
      · have hg := hfin.out (39 :: dbl xa.data.toList ++ [39]) (by rw [hX.out]; rfl) w1 hb1
        replace hg := Lib.hid hg
        clear hb1
        go_upto_region 12 with fail
        go_wp2_with fail
        go_loop [3, 4] (fun h i => ∃ k : Nat, k ≤ xa.size ∧ i = .int .i64 k ∧ h = .string (ba (dblB xa k))) (fun _ i => xa.size - (RowKit.intOf i).toNat)
        case atStart => exact ⟨0, by omega, rfl, rfl⟩
        case round =>
          obtain ⟨k, hk, rfl, rfl⟩ := hrel
          have hs1 : (xa.size : Int) ≤ 9223372036854775807 := by omega
          have hsz := dblB_len xa k
          by_cases hlt : k < xa.size
          · have hlI : (k : Int) < xa.size := by omega
            obtain ⟨c, hc⟩ : ∃ c, xa.data.toList.getD k 0 = c := ⟨_, rfl⟩
            have hst := dblB_step xa k hlt c hc
            have hp := piece1 xa k hlt c hc
            have hg0 : ∀ h : k < xa.size, (xa[k]'h).toNat = c.toNat := fun h => by rw [btS_get xa k h]; unfold btS; rw [hc]
            have hsz1 := dblB_len xa (k + 1)
            have hc39 : ((c.toNat : Int) == 39) = decide (c = 39) := by
              rw [Bool.eq_iff_iff]
              simp only [beq_iff_eq, decide_eq_true_eq]
              constructor
              · intro h
                apply UInt8.toNat_inj.1
                have : (39 : UInt8).toNat = 39 := rfl
                omega
              · rintro rfl; rfl
            have zp : (ba [c]).size = 1 := by rw [ba, mk_size]; rfl
            have hsl : ∀ wx, (Instr.slice 9 (.string xa) (some (.int .i64 (k : Int))) (some (.int .i64 ((k : Int) + 1))) none).run Tryz.prog wx = .ok (.string (ba [c])) wx := by
              intro wx
              rw [← hp]
              have h5 := run_slice_string (P := Tryz.prog) wx 9 xa .i64 .i64 (k : Int) ((k + 1 : Nat) : Int) Tryz.underlying9 (by omega) (by omega) (by omega)
              simpa using h5
            by_cases hq : c = 39
            · rw [decide_eq_true hq] at hc39
              rw [if_pos hq] at hst
              have e1 : ba (dblB xa k) ++ ⟨#[39]⟩ = ba (dblB xa k ++ [39]) := by show _ ++ ba [39] = _; rw [ba_app]
              have e2 : ba (dblB xa k) ++ ⟨#[39]⟩ ++ ba [c] = ba (dblB xa (k + 1)) := by rw [e1, ba_app, hst, hq]; simp
              have z1 : ¬ 9223372036854775807 < (ba (dblB xa k)).size + (⟨#[39]⟩ : ByteArray).size := by
                have : (⟨#[39]⟩ : ByteArray).size = 1 := rfl
                omega
              have z2 : ¬ 9223372036854775807 < (ba (dblB xa k) ++ ⟨#[39]⟩).size + (ba [c]).size := by
                rw [ByteArray.size_append]
                have : (⟨#[39]⟩ : ByteArray).size = 1 := rfl
                omega
              clear e1 hst hp hsz1 hsz zp
              replace e2 := Lib.hid e2
              generalize ba (dblB xa k) = B0 at *
              generalize ba [c] = P at *
              replace hq := Lib.hid hq
              replace hc := Lib.hid hc
              go_wp2_with fail
              go_round
              case rel => exact ⟨k + 1, by omega, by go_num, by rw [e2.out]⟩
              case measure => simp [RowKit.intOf]; omega
            · rw [decide_eq_false hq] at hc39
              rw [if_neg hq] at hst
              have e2 : ba (dblB xa k) ++ ba [c] = ba (dblB xa (k + 1)) := by rw [ba_app, hst]
              have z1 : ¬ 9223372036854775807 < (ba (dblB xa k)).size + (ba [c]).size := by omega
              clear hst hp hsz1 hsz zp
              replace e2 := Lib.hid e2
              generalize ba (dblB xa k) = B0 at *
              generalize ba [c] = P at *
              replace hq := Lib.hid hq
              replace hc := Lib.hid hc
              go_wp2_with fail
              go_round
              case rel => exact ⟨k + 1, by omega, by go_num, by rw [e2.out]⟩
              case measure => simp [RowKit.intOf]; omega
          · have hkI : ¬ (k : Int) < xa.size := by omega
            have e2 : ba (dblB xa k) ++ ⟨#[39]⟩ = ba (39 :: dbl xa.data.toList ++ [39]) := by
              show _ ++ ba [39] = _
              rw [ba_app, dblB, List.take_of_length_le (by simp; omega)]
            have z1 : ¬ 9223372036854775807 < (ba (dblB xa k)).size + (⟨#[39]⟩ : ByteArray).size := by
              have : (⟨#[39]⟩ : ByteArray).size = 1 := rfl
              omega
            have hg2 := hg.out
            rw [← e2] at hg2
            clear e2 hsz
            generalize ba (dblB xa k) = B0 at *
            replace hg2 := Lib.hid hg2
            go_wp2_with fail
            first | exact hg2.out | (go_ret; exact hg2.out)
      · cases bv
        all_goals
          have hg := hfin.out _ hX.out w1 hb1
          replace hg := Lib.hid hg
          clear hb1
          go_wp2_with fail
          first | exact hg.out | (go_ret; exact hg.out)
  · have hi : ((fp : Int) != 0) = true := by simp [hf]
    rw [if_pos (by simpa using hf)] at hX
    have hg := hfin.out [] hX
    replace hX := Lib.hid hX
    replace hf := Lib.hid hf
    replace hg := Lib.hid hg
    replace hfp := Lib.hid hfp
    go_enter Tryz.func65, Tryz.ntmps65
    go_upto_region 1 with fail
    rw [← hW.out]
    go_wp2_with fail
    refine hva.out.mono ?_
    rintro e w1 ⟨rfl, hb1⟩
    have hg2 := hg.out w1 hb1
    replace hg2 := Lib.hid hg2
    clear hb1
    go_wp2_with fail
    first | exact hg2.out | (go_ret; exact hg2.out)
theorem NumR.len63 {n m : Nat} {l : List UInt8} (h : NumR n m l) (hn : n ≤ 9223372036854775807) : l.length ≤ 20 ∧ m ≤ 9223372036854775807 := by
  have hd : (decDigits n).length ≤ 20 := by
    rw [decDigits_length]
    exact nDigits_le20 n (by omega)
  rcases h with ⟨rfl, rfl⟩ | ⟨_, h, hk⟩ | ⟨_, h, hk⟩
  · exact ⟨by simp, by omega⟩
  · rw [hk, List.length_append] at hd
    have hv : valFrom 0 (decDigits m ++ l) = n := by rw [← hk]; exact (dec_dig n).2.1
    have hge : ∀ (l : List UInt8) (a b : List UInt8), a = b → valFrom 0 a = valFrom 0 b := fun _ _ _ h => by rw [h]
    have happ : ∀ (a b : List UInt8) (x : Nat), valFrom x (a ++ b) = valFrom (valFrom x a) b := by
      intro a
      induction a with
      | nil => intro b x; rfl
      | cons c r ih => intro b x; exact ih b _
    rw [happ, (dec_dig m).2.1] at hv
    have := val_ge l m
    exact ⟨by omega, by omega⟩
  · rw [← hk]; exact ⟨hd, by omega⟩
set_option maxHeartbeats 4000000 in
set_option maxRecDepth 100000 in
theorem rnum_pos63 (n : Nat) (hn : n ≤ 9223372036854775807) (w : World) :
    Calls Tryz.prog 38 #[.int .i64 (n : Int)] w (RPost w (.string (ba (decDigits n)))) := by
  have hnI : ¬ (n : Int) < 0 := by omega
  go_enter Tryz.func38, Tryz.ntmps38
  go_wp2_with fail
  go_loopw [0, 3] (fun t s wx => ∃ (m : Nat) (l : List UInt8), t = .int .i64 m ∧ s = .string (ba l) ∧ NumR n m l ∧ Below w.heap.size w wx) (fun t s _ => numM t s)
  case atStart => exact ⟨n, [], rfl, rfl, .inl ⟨rfl, rfl⟩, Below.refl _ _⟩
  case round =>
    obtain ⟨m, l, rfl, rfl, hR, hB⟩ := hrel
    obtain ⟨hl, hm⟩ := hR.len63 hn
    by_cases hgo : 0 < m ∨ l = []
    · have hst := hR.step hgo
      have hs1 : ((ba l).toList == ([] : List UInt8)) = decide (l = []) := by rw [beqL]; rfl
      have hd : 48 + m % 10 < 256 := by omega
      obtain ⟨d, hde⟩ : ∃ d, d = 48 + m % 10 := ⟨_, rfl⟩
      have hdI : (48 : Int) + (m : Int) % 10 = (d : Int) := by omega
      have hcv := fun wx (hx : Rd wx (.slice (some ⟨wr.heap.size, 0, none⟩) [d].length 1) [d].length (bcells [d])) => conv_rd hx (by intro x hx; simp at hx; omega) (by simp)
      have hcv2 := hcv (wr.alloc (.cells #[.int .u8 (d : Int)] 5)) (Rd.of_has (Has.new wr [.int .u8 (d : Int)] 5) 1 1)
      have hcv3 : (convert 74 9 (.slice (some ⟨wr.heap.size, 0, none⟩) 1 1)).run Tryz.prog (wr.alloc (.cells #[.int .u8 (d : Int)] 5)) = .ok (.string (strOfNats [d])) (wr.alloc (.cells #[.int .u8 (d : Int)] 5)) := hcv2
      have hB2 : Below w.heap.size w (wr.alloc (.cells #[.int .u8 (d : Int)] 5)) := hB.alloc hB.size _
      rw [← hde] at hst
      have hcat : strOfNats [d] ++ ba l = ba (UInt8.ofNat d :: l) := by
        show ba (bytesOf [d]) ++ ba l = _
        rw [ba_app]; rfl
      have z1 : ¬ 9223372036854775807 < (strOfNats [d]).size + (ba l).size := by
        have e1 : (strOfNats [d]).size = 1 := rfl
        have e2 : (ba l).size = l.length := by rw [ba, mk_size]
        omega
      replace hB2 := Lib.hid hB2
      replace hst := Lib.hid hst
      replace hcat := Lib.hid hcat
      replace hde := Lib.hid hde
      generalize strOfNats [d] = sd at *
      clear hcv hcv2 hR hB
      by_cases hm0 : 0 < m
      · have hmI : (m : Int) > 0 := by omega
        clear hgo
        go_wp2_with fail
        go_round
        case rel => exact ⟨m / 10, _, by go_num, by rw [hcat.out], hst.out, hB2.out⟩
        case measure =>
          rw [hcat.out]
          have h1 := numM_of m l
          have h2 := numM_of (m / 10) (UInt8.ofNat d :: l)
          have e3 : ((m / 10 : Nat) : Int) = (m : Int) / 10 := by omega
          rw [e3, if_neg (by simp)] at h2
          rw [h1, h2]
          split <;> omega
      · have hmI : ¬ (m : Int) > 0 := by omega
        have hle : l = [] := by
          rcases hgo with h | h
          · omega
          · exact h
        subst hle
        clear hgo
        go_wp2_with fail
        go_round
        case rel => exact ⟨m / 10, _, by go_num, by rw [hcat.out], hst.out, hB2.out⟩
        case measure =>
          rw [hcat.out]
          have h1 := numM_of m []
          have h2 := numM_of (m / 10) [UInt8.ofNat d]
          have e3 : ((m / 10 : Nat) : Int) = (m : Int) / 10 := by omega
          rw [e3, if_neg (by simp)] at h2
          rw [if_pos rfl] at h1
          rw [h1, h2]
          omega
    · have h1 : ¬ 0 < m := fun h => hgo (.inl h)
      have h2 : l ≠ [] := fun h => hgo (.inr h)
      have hmI : ¬ (m : Int) > 0 := by omega
      have hs1 : ((ba l).toList == ([] : List UInt8)) = false := by rw [beqL]; exact decide_eq_false h2
      have hd := hR.done h1 h2
      replace hd := Lib.hid hd
      replace h2 := Lib.hid h2
      replace hB := Lib.hid hB
      clear hgo hR h1
      go_wp2_with fail
      go_ret
      exact ⟨by rw [hd.out]; rfl, hB.out⟩
set_option maxHeartbeats 4000000 in
theorem rbound_any (ta : Nat) (na : Bool) (ia : Int) (xa : ByteArray) (bv : Bool) (hsa : xa.size ≤ 9223372036854775807) (w : World) :
    Calls Tryz.prog 39 #[.agg #[.int .i64 (ta : Int), .bool na, .int .i64 ia, .string xa, .bool bv]] w (RPost w (.string (ba (boundP ⟨ta, na, ia, xa, bv⟩)))) := by
  obtain ⟨W, hW⟩ : ∃ W, W = w.alloc (.cells #[.int .i64 (ta : Int), .bool na, .int .i64 ia, .string xa, .bool bv] 33) := ⟨_, rfl⟩
  have hA : Has W w.heap.size [.int .i64 (ta : Int), .bool na, .int .i64 ia, .string xa, .bool bv] 33 := by rw [hW]; exact Has.new w _ 33
  have hBW : Below w.heap.size w W := by rw [hW]; exact (Below.refl _ _).alloc (Nat.le_refl _) _
  have hc := rtext_any ta na ia xa bv hsa W
  have a0 := hA.cell (o := 0) rfl
  have a1 := hA.cell (o := 1) rfl
  have a2 := hA.cell (o := 2) rfl
  have a3 := hA.cell (o := 3) rfl
  have a4 := hA.cell (o := 4) rfl
  replace hW := Lib.hid hW.symm
  replace hc := Lib.hid hc
  replace hBW := Lib.hid hBW
  clear hA
  cases na with
  | true =>
    go_enter Tryz.func39, Tryz.ntmps39
    go_upto_region 1 with fail
    rw [hW.out]
    go_wp2_with fail
    go_ret
    exact ⟨rfl, hBW.out⟩
  | false =>
    go_enter Tryz.func39, Tryz.ntmps39
    go_upto_region 1 with fail
    rw [hW.out]
    go_wp2_with fail
    refine hc.out.mono ?_
    rintro e w1 ⟨rfl, hb⟩
    have hb2 := Lib.hid (hBW.out.trans (hb.mono hBW.out.size))
    clear hb
    go_wp2_with fail
    go_ret
    exact ⟨rfl, hb2.out⟩
end Go.Proofs.YtgnoikfmhncbmaaGreatDoor
