/- The walk of the reference's Literal at other numbers, and whole. -/
import Derived.Test.YtpjbcadelmjmfaaGreatDoorR32
set_option linter.unusedVariables false
namespace Go.Proofs.YtpjbcadelmjmfaaGreatDoor
open Go.RowKit Go.Lib

set_option maxHeartbeats 16000000 in
set_option maxRecDepth 100000 in
theorem rlit_pos1 (s : ByteArray) (hs : s.size ≤ 1000000) (w : World) (d : List UInt8) (hsd : s.data.toList = d) (hne : d ≠ []) (h1 : s.data.toList ≠ nullL) (h2 : s.data.toList ≠ trueL) (h3 : s.data.toList ≠ falseL) (h45 : d.getD 0 0 ≠ 45) (hlen1 : s.size = 1) :
    Calls Tryz.prog 28 #[.string s] w (RLitPost w (numP s.data.toList)) := by
  have e1 : (s.toList == [110, 117, 108, 108]) = false := by rw [beqL]; exact decide_eq_false h1
  have e2 : (s.toList == [116, 114, 117, 101]) = false := by rw [beqL]; exact decide_eq_false h2
  have e3 : (s.toList == [102, 97, 108, 115, 101]) = false := by rw [beqL]; exact decide_eq_false h3
  have hB : ∀ c : Array Value, Below w.heap.size w (w.alloc (.cells c 54)) := fun c => (Below.refl _ _).alloc (Nat.le_refl _) _
  have hsl : s.data.toList.length = s.size := by simp
  have hDd := hsd
  have hDl : s.size = d.length := by rw [← hsl, hsd]
  have hdl : 0 < d.length := List.length_pos_iff.2 hne
  obtain ⟨x, hxe⟩ : ∃ x, x = (d.getD 0 0).toNat := ⟨_, rfl⟩
  have hx0 : ∀ h : 0 < s.size, (s[0]'h).toNat = x := fun h => by rw [btS_get s 0 h]; unfold btS; rw [hsd, hxe]
  have k45 : ((x : Int) == 45) = false := by
    rw [hxe]
    have : (45 : UInt8).toNat = 45 := rfl
    simp only [beq_eq_false_iff_ne]
    intro e
    exact h45 (UInt8.toNat_inj.1 (by omega))
  have hg : ∀ (x : RV × Nat) (v : Value), numP s.data.toList = x → x.1.rval = v → ∀ c, RLitPost w (numP s.data.toList) (.returned (.tuple #[v, .int .i64 (x.2 : Int)])) (w.alloc (.cells c 54)) := by
    rintro x v hx rfl c
    rw [hx]
    exact ⟨rfl, hB _⟩
  have htr : trimPrefix s.data.toList [45] = d := by
    rw [hsd]
    unfold trimPrefix
    rw [if_neg]
    cases d with
    | nil => exact absurd rfl hne
    | cons c r =>
      unfold hasPrefix
      simp only [List.isPrefixOf, Bool.and_true, beq_iff_eq]
      intro e
      exact h45 e.symm
  have hdef : numP s.data.toList = if allDig d = false ∨ d = [] ∨ (d.getD 0 0 = 48 ∧ s.data.toList ≠ [48]) then (badV, 11) else match parseIntB 32 s.data.toList with
    | .ok n => (⟨1, false, n, ByteArray.empty, false⟩, 0)
    | _ => (badV, 16) := by unfold numP; rw [htr]; rfl
  generalize numP s.data.toList = res at *
  generalize RLitPost w res = post at *
  have hs1 : (s.size : Int) ≤ 1000000 := by omega
  have g0I : (s.size : Int) > 0 := by omega
  have g1I : ¬ (s.size : Int) > 1 := by omega
  replace hg := Lib.hid hg
  replace hdef := Lib.hid hdef
  replace hB := Lib.hid hB
  replace htr := Lib.hid htr
  replace h1 := Lib.hid h1
  replace h2 := Lib.hid h2
  replace h3 := Lib.hid h3
  replace h45 := Lib.hid h45
  replace hxe := Lib.hid hxe
  clear hsl
  have hsdk := Lib.hid hsd
  have hnek := Lib.hid hne
  have hDdk := Lib.hid hDd
  replace hsd := Lib.hid hsd
  replace hne := Lib.hid hne
  replace hDd := Lib.hid hDd
  replace hDl := Lib.hid hDl
  go_enter Tryz.func28, Tryz.ntmps28
  go_upto_region 25 with fail
  clear hx0 
  replace hsd := hsd.out
  replace hne := hne.out
  replace hDd := hDd.out
  replace hDl := hDl.out
  clear hsdk hnek hDdk
  have hDg : ∀ (j : Nat) (h : j < s.size), (s[j]'h).toNat = (d.getD j 0).toNat := fun j h => by rw [btS_get s j h]; unfold btS; rw [hDd]
  obtain ⟨x0, hx0e⟩ : ∃ x, x = (d.getD 0 0).toNat := ⟨_, rfl⟩
  have hD0 : ∀ h : 0 < s.size, (s[0]'h).toNat = x0 := fun h => by rw [hDg 0 h, hx0e]
  have hDn : (s.toList == ([] : List UInt8)) = false := by rw [beqL, hDd]; exact decide_eq_false hne
  have hDp : 0 < s.size := by rw [hDl]; exact List.length_pos_iff.2 hne
  replace hDn := hDn
  by_cases hlead : d.getD 0 0 = 48 ∧ s.data.toList ≠ [48]
  · have hres : res = (badV, 11) := by rw [hdef.out, if_pos (.inr (.inr hlead))]
    have k48 : ((x0 : Int) == 48) = true := by rw [hx0e, hlead.1]; rfl
    have z1 : (s.toList == [48]) = false := by rw [beqL]; exact decide_eq_false hlead.2
    have z2 : (s.toList != [48]) = true := by simp only [bne, z1]; rfl
    have hf := hg.out (badV, 11) (.agg #[.int .i64 0, .bool false, .int .i64 0, .string ⟨#[]⟩, .bool false]) hres rfl #[.int .i64 0, .bool false, .int .i64 0, .string ⟨#[]⟩, .bool false]
    replace hf := Lib.hid hf
    replace hres := Lib.hid hres
    replace hx0e := Lib.hid hx0e
    replace hlead := Lib.hid hlead
    replace hDg := Lib.hid hDg
    replace hDd := Lib.hid hDd
    replace hne := Lib.hid hne
    replace hsd := Lib.hid hsd
    go_wp2_with fail
    exact bodyPost_ret (v := .tuple #[.agg #[.int .i64 0, .bool false, .int .i64 0, .string ⟨#[]⟩, .bool false], .int .i64 11]) (by simp [results, Tryz.results28, go_sem]) rfl hf.out
  · have hgo : ((x0 : Int) == 48) = false ∨ (((x0 : Int) == 48) = true ∧ (s.toList == [48]) = true ∧ (s.toList != [48]) = false) := by
      by_cases h48 : d.getD 0 0 = 48
      · have hs48 : s.data.toList = [48] := Classical.byContradiction fun e => hlead ⟨h48, e⟩
        have z1 : (s.toList == [48]) = true := by rw [beqL]; exact decide_eq_true hs48
        exact .inr ⟨by rw [hx0e, h48]; rfl, z1, by simp only [bne, z1]; rfl⟩
      · refine .inl ?_
        rw [hx0e]
        have : (48 : UInt8).toNat = 48 := rfl
        simp only [beq_eq_false_iff_ne]
        intro e
        exact h48 (UInt8.toNat_inj.1 (by omega))
    replace hx0e := Lib.hid hx0e
    have hne2 := hne
    replace hne := Lib.hid hne
    replace hsd := Lib.hid hsd
    rcases hgo with k48 | ⟨k48, z1, z2⟩
    all_goals
      replace hlead := Lib.hid hlead
      replace hDg := Lib.hid hDg
      go_upto_region 28 with fail
      go_wp2_with fail
      go_loop [7, 8] (fun n i => ∃ k : Nat, k ≤ d.length ∧ allDig (d.take k) = true ∧ i = .int .i64 k ∧ n = .int .i64 (capFrom 0 (d.take k) : Nat)) (fun _ i => s.size - (RowKit.intOf i).toNat)
      case atStart => exact ⟨0, by omega, rfl, rfl, rfl⟩
      case round =>
        obtain ⟨k, hk, hal, rfl, rfl⟩ := hrel
        have hcb := cap_le (d.take k)
        by_cases hlt : k < s.size
        · have hlI : (k : Int) < s.size := by omega
          obtain ⟨c, hc⟩ : ∃ c, d.getD k 0 = c := ⟨_, rfl⟩
          have hg0 : ∀ h : k < s.size, (s[k]'h).toNat = c.toNat := fun h => by rw [hDg.out k h, hc]
          have htk : d.take (k + 1) = d.take k ++ [c] := by rw [take_getD d k 0 (by omega), hc]
          have hcap := cap_snoc (d.take k) c
          have hdig := dig_snoc (d.take k) c
          rw [← htk] at hcap hdig
          rw [hal, Bool.true_and] at hdig
          obtain ⟨cn, hcn⟩ : ∃ x, x = c.toNat := ⟨_, rfl⟩
          have hcl : cn < 256 := by rw [hcn]; exact UInt8.toNat_lt c
          rw [← hcn] at hg0 hcap hdig
          obtain ⟨N, hN⟩ : ∃ x, x = capFrom 0 (d.take k) := ⟨_, rfl⟩
          rw [← hN] at hcap hcb
          rw [← hN]
          by_cases h1 : cn < 48
          · have h1I : (cn : Int) < 48 := by omega
            have hnd : allDig d = false := not_dig hc (by omega) (by rw [← hcn]; omega)
            have hres : res = (badV, 11) := by rw [hdef.out, if_pos (.inl hnd)]
            have hf := hg.out (badV, 11) (.agg #[.int .i64 0, .bool false, .int .i64 0, .string ⟨#[]⟩, .bool false]) hres rfl #[.int .i64 0, .bool false, .int .i64 0, .string ⟨#[]⟩, .bool false]
            replace hf := Lib.hid hf
            replace hres := Lib.hid hres
            replace hnd := Lib.hid hnd
            replace hcap := Lib.hid hcap
            replace hdig := Lib.hid hdig
            replace hN := Lib.hid hN
            replace hcn := Lib.hid hcn
            replace hc := Lib.hid hc
            replace htk := Lib.hid htk
            replace hal := Lib.hid hal
            go_wp2_with fail
            exact bodyPost_ret (v := .tuple #[.agg #[.int .i64 0, .bool false, .int .i64 0, .string ⟨#[]⟩, .bool false], .int .i64 11]) (by simp [results, Tryz.results28, go_sem]) rfl hf.out
          · have h1I : ¬ (cn : Int) < 48 := by omega
            by_cases h2 : 57 < cn
            · have h2I : (cn : Int) > 57 := by omega
              have hnd : allDig d = false := not_dig hc (by omega) (by rw [← hcn]; omega)
              have hres : res = (badV, 11) := by rw [hdef.out, if_pos (.inl hnd)]
              have hf := hg.out (badV, 11) (.agg #[.int .i64 0, .bool false, .int .i64 0, .string ⟨#[]⟩, .bool false]) hres rfl #[.int .i64 0, .bool false, .int .i64 0, .string ⟨#[]⟩, .bool false]
              replace hf := Lib.hid hf
              replace hres := Lib.hid hres
              replace hnd := Lib.hid hnd
              replace hcap := Lib.hid hcap
              replace hdig := Lib.hid hdig
              replace hN := Lib.hid hN
              replace hcn := Lib.hid hcn
              replace hc := Lib.hid hc
              replace htk := Lib.hid htk
              replace hal := Lib.hid hal
              go_wp2_with fail
              exact bodyPost_ret (v := .tuple #[.agg #[.int .i64 0, .bool false, .int .i64 0, .string ⟨#[]⟩, .bool false], .int .i64 11]) (by simp [results, Tryz.results28, go_sem]) rfl hf.out
            · have h2I : ¬ (cn : Int) > 57 := by omega
              have hdg : allDig (d.take (k + 1)) = true := by rw [hdig, decide_eq_true (show 48 ≤ cn by omega), decide_eq_true (show cn ≤ 57 by omega)]; rfl
              obtain ⟨M, hM⟩ : ∃ x, x = min (10 * N + (cn - 48)) 1099511627776 := ⟨_, rfl⟩
              rw [← hM] at hcap
              have m1 : min (10 * (N : Int) + ((cn : Int) - 48)) 1099511627776 = (M : Int) := by rw [hM]; omega
              have m2 : (if (1099511627776 : Int) < 10 * (N : Int) + ((cn : Int) - 48) then (1099511627776 : Int) else 10 * (N : Int) + ((cn : Int) - 48)) = (M : Int) := by rw [hM]; split <;> omega
              replace hM := Lib.hid hM
              replace hcap := Lib.hid hcap
              replace hdig := Lib.hid hdig
              replace hdg := Lib.hid hdg
              replace hN := Lib.hid hN
              replace hcn := Lib.hid hcn
              replace hc := Lib.hid hc
              replace htk := Lib.hid htk
              replace hal := Lib.hid hal
              go_wp2_with fail
              go_round
              case rel => exact ⟨k + 1, by omega, hdg.out, by go_num, by rw [hcap.out]⟩
              case measure => simp [RowKit.intOf]; omega
        · have hkI : ¬ (k : Int) < s.size := by omega
          have hall : d.take k = d := List.take_of_length_le (by omega)
          rw [hall] at hal hcb
          rw [hall]
          have hV := cap_val d 0
          rw [Nat.zero_min] at hV
          obtain ⟨V, hVe⟩ : ∃ x, x = valFrom 0 d := ⟨_, rfl⟩
          rw [← hVe] at hV
          obtain ⟨N, hN⟩ : ∃ x, x = capFrom 0 d := ⟨_, rfl⟩
          rw [← hN] at hV hcb
          rw [← hN]
          have hok : ¬ (allDig d = false ∨ d = [] ∨ (d.getD 0 0 = 48 ∧ s.data.toList ≠ [48])) := by
            rintro (h | h | h)
            · rw [hal] at h; cases h
            · exact hne2 h
            · exact hlead.out h
          have hd2 := hdef.out
          rw [if_neg hok] at hd2
          have hlen : ¬ (s.size : Int) < s.size := by omega
          by_cases hbig : 2147483648 ≤ V
          · have hp : parseIntB 32 s.data.toList = .range := by rw [hsd.out, parse_pos d hne2 hal, ← hVe, if_neg (by omega)]
            rw [hp] at hd2
            have hres : res = (badV, 16) := hd2
            have hb0 : ¬ (N : Int) < -2147483648 := by omega
            have hb1 : (N : Int) ≥ 2147483648 := by omega
            have hf := hg.out (badV, 16) (.agg #[.int .i64 0, .bool false, .int .i64 0, .string ⟨#[]⟩, .bool false]) hres rfl #[.int .i64 0, .bool false, .int .i64 0, .string ⟨#[]⟩, .bool false]
            replace hf := Lib.hid hf
            replace hd2 := Lib.hid hd2
            replace hres := Lib.hid hres
            replace hp := Lib.hid hp
            replace hV := Lib.hid hV
            replace hVe := Lib.hid hVe
            replace hN := Lib.hid hN
            replace hal := Lib.hid hal
            replace hok := Lib.hid hok
            replace hall := Lib.hid hall
            go_wp2_with fail
            exact bodyPost_ret (v := .tuple #[.agg #[.int .i64 0, .bool false, .int .i64 0, .string ⟨#[]⟩, .bool false], .int .i64 16]) (by simp [results, Tryz.results28, go_sem]) rfl hf.out
          · have hp : parseIntB 32 s.data.toList = .ok ((V : Int)) := by rw [hsd.out, parse_pos d hne2 hal, ← hVe, if_pos (by omega)]
            rw [hp] at hd2
            have hres : res = (⟨1, false, (V : Int), ByteArray.empty, false⟩, 0) := hd2
            have hNV : N = V := by omega
            have hb0 : ¬ (N : Int) < -2147483648 := by omega
            have hb1 : ¬ (N : Int) ≥ 2147483648 := by omega
            have hf := hg.out (⟨1, false, (V : Int), ByteArray.empty, false⟩, 0) (.agg #[.int .i64 1, .bool false, .int .i64 ((V : Int)), .string ⟨#[]⟩, .bool false]) hres rfl #[.int .i64 1, .bool false, .int .i64 ((V : Int)), .string ⟨#[]⟩, .bool false]
            rw [← hNV] at hf
            replace hf := Lib.hid hf
            replace hd2 := Lib.hid hd2
            replace hres := Lib.hid hres
            replace hp := Lib.hid hp
            replace hV := Lib.hid hV
            replace hVe := Lib.hid hVe
            replace hN := Lib.hid hN
            replace hal := Lib.hid hal
            replace hok := Lib.hid hok
            replace hall := Lib.hid hall
            replace hNV := Lib.hid hNV
            go_wp2_with fail
            exact bodyPost_ret (v := .tuple #[.agg #[.int .i64 1, .bool false, .int .i64 ((N : Int)), .string ⟨#[]⟩, .bool false], .int .i64 0]) (by simp [results, Tryz.results28, go_sem]) rfl hf.out
set_option maxHeartbeats 16000000 in
set_option maxRecDepth 100000 in
theorem rlit_pos2 (s : ByteArray) (hs : s.size ≤ 1000000) (w : World) (d : List UInt8) (hsd : s.data.toList = d) (hne : d ≠ []) (h1 : s.data.toList ≠ nullL) (h2 : s.data.toList ≠ trueL) (h3 : s.data.toList ≠ falseL) (h45 : d.getD 0 0 ≠ 45) (hlen1 : 1 < s.size) (h39 : d.getD 0 0 ≠ 39) :
    Calls Tryz.prog 28 #[.string s] w (RLitPost w (numP s.data.toList)) := by
  have e1 : (s.toList == [110, 117, 108, 108]) = false := by rw [beqL]; exact decide_eq_false h1
  have e2 : (s.toList == [116, 114, 117, 101]) = false := by rw [beqL]; exact decide_eq_false h2
  have e3 : (s.toList == [102, 97, 108, 115, 101]) = false := by rw [beqL]; exact decide_eq_false h3
  have hB : ∀ c : Array Value, Below w.heap.size w (w.alloc (.cells c 54)) := fun c => (Below.refl _ _).alloc (Nat.le_refl _) _
  have hsl : s.data.toList.length = s.size := by simp
  have hDd := hsd
  have hDl : s.size = d.length := by rw [← hsl, hsd]
  have hdl : 0 < d.length := List.length_pos_iff.2 hne
  obtain ⟨x, hxe⟩ : ∃ x, x = (d.getD 0 0).toNat := ⟨_, rfl⟩
  have hx0 : ∀ h : 0 < s.size, (s[0]'h).toNat = x := fun h => by rw [btS_get s 0 h]; unfold btS; rw [hsd, hxe]
  have k45 : ((x : Int) == 45) = false := by
    rw [hxe]
    have : (45 : UInt8).toNat = 45 := rfl
    simp only [beq_eq_false_iff_ne]
    intro e
    exact h45 (UInt8.toNat_inj.1 (by omega))
  have hg : ∀ (x : RV × Nat) (v : Value), numP s.data.toList = x → x.1.rval = v → ∀ c, RLitPost w (numP s.data.toList) (.returned (.tuple #[v, .int .i64 (x.2 : Int)])) (w.alloc (.cells c 54)) := by
    rintro x v hx rfl c
    rw [hx]
    exact ⟨rfl, hB _⟩
  have htr : trimPrefix s.data.toList [45] = d := by
    rw [hsd]
    unfold trimPrefix
    rw [if_neg]
    cases d with
    | nil => exact absurd rfl hne
    | cons c r =>
      unfold hasPrefix
      simp only [List.isPrefixOf, Bool.and_true, beq_iff_eq]
      intro e
      exact h45 e.symm
  have hdef : numP s.data.toList = if allDig d = false ∨ d = [] ∨ (d.getD 0 0 = 48 ∧ s.data.toList ≠ [48]) then (badV, 11) else match parseIntB 32 s.data.toList with
    | .ok n => (⟨1, false, n, ByteArray.empty, false⟩, 0)
    | _ => (badV, 16) := by unfold numP; rw [htr]; rfl
  generalize numP s.data.toList = res at *
  generalize RLitPost w res = post at *
  have hs1 : (s.size : Int) ≤ 1000000 := by omega
  have g0I : (s.size : Int) > 0 := by omega
  have g1I : (s.size : Int) > 1 := by omega
  have k39 : ((x : Int) == 39) = false := by
    rw [hxe]
    have : (39 : UInt8).toNat = 39 := rfl
    simp only [beq_eq_false_iff_ne]
    intro e
    exact h39 (UInt8.toNat_inj.1 (by omega))
  replace h39 := Lib.hid h39
  replace hg := Lib.hid hg
  replace hdef := Lib.hid hdef
  replace hB := Lib.hid hB
  replace htr := Lib.hid htr
  replace h1 := Lib.hid h1
  replace h2 := Lib.hid h2
  replace h3 := Lib.hid h3
  replace h45 := Lib.hid h45
  replace hxe := Lib.hid hxe
  clear hsl
  have hsdk := Lib.hid hsd
  have hnek := Lib.hid hne
  have hDdk := Lib.hid hDd
  replace hsd := Lib.hid hsd
  replace hne := Lib.hid hne
  replace hDd := Lib.hid hDd
  replace hDl := Lib.hid hDl
  go_enter Tryz.func28, Tryz.ntmps28
  go_upto_region 25 with fail
  clear hx0 
  replace hsd := hsd.out
  replace hne := hne.out
  replace hDd := hDd.out
  replace hDl := hDl.out
  clear hsdk hnek hDdk
  have hDg : ∀ (j : Nat) (h : j < s.size), (s[j]'h).toNat = (d.getD j 0).toNat := fun j h => by rw [btS_get s j h]; unfold btS; rw [hDd]
  obtain ⟨x0, hx0e⟩ : ∃ x, x = (d.getD 0 0).toNat := ⟨_, rfl⟩
  have hD0 : ∀ h : 0 < s.size, (s[0]'h).toNat = x0 := fun h => by rw [hDg 0 h, hx0e]
  have hDn : (s.toList == ([] : List UInt8)) = false := by rw [beqL, hDd]; exact decide_eq_false hne
  have hDp : 0 < s.size := by rw [hDl]; exact List.length_pos_iff.2 hne
  replace hDn := hDn
  by_cases hlead : d.getD 0 0 = 48 ∧ s.data.toList ≠ [48]
  · have hres : res = (badV, 11) := by rw [hdef.out, if_pos (.inr (.inr hlead))]
    have k48 : ((x0 : Int) == 48) = true := by rw [hx0e, hlead.1]; rfl
    have z1 : (s.toList == [48]) = false := by rw [beqL]; exact decide_eq_false hlead.2
    have z2 : (s.toList != [48]) = true := by simp only [bne, z1]; rfl
    have hf := hg.out (badV, 11) (.agg #[.int .i64 0, .bool false, .int .i64 0, .string ⟨#[]⟩, .bool false]) hres rfl #[.int .i64 0, .bool false, .int .i64 0, .string ⟨#[]⟩, .bool false]
    replace hf := Lib.hid hf
    replace hres := Lib.hid hres
    replace hx0e := Lib.hid hx0e
    replace hlead := Lib.hid hlead
    replace hDg := Lib.hid hDg
    replace hDd := Lib.hid hDd
    replace hne := Lib.hid hne
    replace hsd := Lib.hid hsd
    go_wp2_with fail
    exact bodyPost_ret (v := .tuple #[.agg #[.int .i64 0, .bool false, .int .i64 0, .string ⟨#[]⟩, .bool false], .int .i64 11]) (by simp [results, Tryz.results28, go_sem]) rfl hf.out
  · have hgo : ((x0 : Int) == 48) = false ∨ (((x0 : Int) == 48) = true ∧ (s.toList == [48]) = true ∧ (s.toList != [48]) = false) := by
      by_cases h48 : d.getD 0 0 = 48
      · have hs48 : s.data.toList = [48] := Classical.byContradiction fun e => hlead ⟨h48, e⟩
        have z1 : (s.toList == [48]) = true := by rw [beqL]; exact decide_eq_true hs48
        exact .inr ⟨by rw [hx0e, h48]; rfl, z1, by simp only [bne, z1]; rfl⟩
      · refine .inl ?_
        rw [hx0e]
        have : (48 : UInt8).toNat = 48 := rfl
        simp only [beq_eq_false_iff_ne]
        intro e
        exact h48 (UInt8.toNat_inj.1 (by omega))
    replace hx0e := Lib.hid hx0e
    have hne2 := hne
    replace hne := Lib.hid hne
    replace hsd := Lib.hid hsd
    rcases hgo with k48 | ⟨k48, z1, z2⟩
    all_goals
      replace hlead := Lib.hid hlead
      replace hDg := Lib.hid hDg
      go_upto_region 28 with fail
      go_wp2_with fail
      go_loop [7, 8] (fun n i => ∃ k : Nat, k ≤ d.length ∧ allDig (d.take k) = true ∧ i = .int .i64 k ∧ n = .int .i64 (capFrom 0 (d.take k) : Nat)) (fun _ i => s.size - (RowKit.intOf i).toNat)
      case atStart => exact ⟨0, by omega, rfl, rfl, rfl⟩
      case round =>
        obtain ⟨k, hk, hal, rfl, rfl⟩ := hrel
        have hcb := cap_le (d.take k)
        by_cases hlt : k < s.size
        · have hlI : (k : Int) < s.size := by omega
          obtain ⟨c, hc⟩ : ∃ c, d.getD k 0 = c := ⟨_, rfl⟩
          have hg0 : ∀ h : k < s.size, (s[k]'h).toNat = c.toNat := fun h => by rw [hDg.out k h, hc]
          have htk : d.take (k + 1) = d.take k ++ [c] := by rw [take_getD d k 0 (by omega), hc]
          have hcap := cap_snoc (d.take k) c
          have hdig := dig_snoc (d.take k) c
          rw [← htk] at hcap hdig
          rw [hal, Bool.true_and] at hdig
          obtain ⟨cn, hcn⟩ : ∃ x, x = c.toNat := ⟨_, rfl⟩
          have hcl : cn < 256 := by rw [hcn]; exact UInt8.toNat_lt c
          rw [← hcn] at hg0 hcap hdig
          obtain ⟨N, hN⟩ : ∃ x, x = capFrom 0 (d.take k) := ⟨_, rfl⟩
          rw [← hN] at hcap hcb
          rw [← hN]
          by_cases h1 : cn < 48
          · have h1I : (cn : Int) < 48 := by omega
            have hnd : allDig d = false := not_dig hc (by omega) (by rw [← hcn]; omega)
            have hres : res = (badV, 11) := by rw [hdef.out, if_pos (.inl hnd)]
            have hf := hg.out (badV, 11) (.agg #[.int .i64 0, .bool false, .int .i64 0, .string ⟨#[]⟩, .bool false]) hres rfl #[.int .i64 0, .bool false, .int .i64 0, .string ⟨#[]⟩, .bool false]
            replace hf := Lib.hid hf
            replace hres := Lib.hid hres
            replace hnd := Lib.hid hnd
            replace hcap := Lib.hid hcap
            replace hdig := Lib.hid hdig
            replace hN := Lib.hid hN
            replace hcn := Lib.hid hcn
            replace hc := Lib.hid hc
            replace htk := Lib.hid htk
            replace hal := Lib.hid hal
            go_wp2_with fail
            exact bodyPost_ret (v := .tuple #[.agg #[.int .i64 0, .bool false, .int .i64 0, .string ⟨#[]⟩, .bool false], .int .i64 11]) (by simp [results, Tryz.results28, go_sem]) rfl hf.out
          · have h1I : ¬ (cn : Int) < 48 := by omega
            by_cases h2 : 57 < cn
            · have h2I : (cn : Int) > 57 := by omega
              have hnd : allDig d = false := not_dig hc (by omega) (by rw [← hcn]; omega)
              have hres : res = (badV, 11) := by rw [hdef.out, if_pos (.inl hnd)]
              have hf := hg.out (badV, 11) (.agg #[.int .i64 0, .bool false, .int .i64 0, .string ⟨#[]⟩, .bool false]) hres rfl #[.int .i64 0, .bool false, .int .i64 0, .string ⟨#[]⟩, .bool false]
              replace hf := Lib.hid hf
              replace hres := Lib.hid hres
              replace hnd := Lib.hid hnd
              replace hcap := Lib.hid hcap
              replace hdig := Lib.hid hdig
              replace hN := Lib.hid hN
              replace hcn := Lib.hid hcn
              replace hc := Lib.hid hc
              replace htk := Lib.hid htk
              replace hal := Lib.hid hal
              go_wp2_with fail
              exact bodyPost_ret (v := .tuple #[.agg #[.int .i64 0, .bool false, .int .i64 0, .string ⟨#[]⟩, .bool false], .int .i64 11]) (by simp [results, Tryz.results28, go_sem]) rfl hf.out
            · have h2I : ¬ (cn : Int) > 57 := by omega
              have hdg : allDig (d.take (k + 1)) = true := by rw [hdig, decide_eq_true (show 48 ≤ cn by omega), decide_eq_true (show cn ≤ 57 by omega)]; rfl
              obtain ⟨M, hM⟩ : ∃ x, x = min (10 * N + (cn - 48)) 1099511627776 := ⟨_, rfl⟩
              rw [← hM] at hcap
              have m1 : min (10 * (N : Int) + ((cn : Int) - 48)) 1099511627776 = (M : Int) := by rw [hM]; omega
              have m2 : (if (1099511627776 : Int) < 10 * (N : Int) + ((cn : Int) - 48) then (1099511627776 : Int) else 10 * (N : Int) + ((cn : Int) - 48)) = (M : Int) := by rw [hM]; split <;> omega
              replace hM := Lib.hid hM
              replace hcap := Lib.hid hcap
              replace hdig := Lib.hid hdig
              replace hdg := Lib.hid hdg
              replace hN := Lib.hid hN
              replace hcn := Lib.hid hcn
              replace hc := Lib.hid hc
              replace htk := Lib.hid htk
              replace hal := Lib.hid hal
              go_wp2_with fail
              go_round
              case rel => exact ⟨k + 1, by omega, hdg.out, by go_num, by rw [hcap.out]⟩
              case measure => simp [RowKit.intOf]; omega
        · have hkI : ¬ (k : Int) < s.size := by omega
          have hall : d.take k = d := List.take_of_length_le (by omega)
          rw [hall] at hal hcb
          rw [hall]
          have hV := cap_val d 0
          rw [Nat.zero_min] at hV
          obtain ⟨V, hVe⟩ : ∃ x, x = valFrom 0 d := ⟨_, rfl⟩
          rw [← hVe] at hV
          obtain ⟨N, hN⟩ : ∃ x, x = capFrom 0 d := ⟨_, rfl⟩
          rw [← hN] at hV hcb
          rw [← hN]
          have hok : ¬ (allDig d = false ∨ d = [] ∨ (d.getD 0 0 = 48 ∧ s.data.toList ≠ [48])) := by
            rintro (h | h | h)
            · rw [hal] at h; cases h
            · exact hne2 h
            · exact hlead.out h
          have hd2 := hdef.out
          rw [if_neg hok] at hd2
          have hlen : ¬ (s.size : Int) < s.size := by omega
          by_cases hbig : 2147483648 ≤ V
          · have hp : parseIntB 32 s.data.toList = .range := by rw [hsd.out, parse_pos d hne2 hal, ← hVe, if_neg (by omega)]
            rw [hp] at hd2
            have hres : res = (badV, 16) := hd2
            have hb0 : ¬ (N : Int) < -2147483648 := by omega
            have hb1 : (N : Int) ≥ 2147483648 := by omega
            have hf := hg.out (badV, 16) (.agg #[.int .i64 0, .bool false, .int .i64 0, .string ⟨#[]⟩, .bool false]) hres rfl #[.int .i64 0, .bool false, .int .i64 0, .string ⟨#[]⟩, .bool false]
            replace hf := Lib.hid hf
            replace hd2 := Lib.hid hd2
            replace hres := Lib.hid hres
            replace hp := Lib.hid hp
            replace hV := Lib.hid hV
            replace hVe := Lib.hid hVe
            replace hN := Lib.hid hN
            replace hal := Lib.hid hal
            replace hok := Lib.hid hok
            replace hall := Lib.hid hall
            go_wp2_with fail
            exact bodyPost_ret (v := .tuple #[.agg #[.int .i64 0, .bool false, .int .i64 0, .string ⟨#[]⟩, .bool false], .int .i64 16]) (by simp [results, Tryz.results28, go_sem]) rfl hf.out
          · have hp : parseIntB 32 s.data.toList = .ok ((V : Int)) := by rw [hsd.out, parse_pos d hne2 hal, ← hVe, if_pos (by omega)]
            rw [hp] at hd2
            have hres : res = (⟨1, false, (V : Int), ByteArray.empty, false⟩, 0) := hd2
            have hNV : N = V := by omega
            have hb0 : ¬ (N : Int) < -2147483648 := by omega
            have hb1 : ¬ (N : Int) ≥ 2147483648 := by omega
            have hf := hg.out (⟨1, false, (V : Int), ByteArray.empty, false⟩, 0) (.agg #[.int .i64 1, .bool false, .int .i64 ((V : Int)), .string ⟨#[]⟩, .bool false]) hres rfl #[.int .i64 1, .bool false, .int .i64 ((V : Int)), .string ⟨#[]⟩, .bool false]
            rw [← hNV] at hf
            replace hf := Lib.hid hf
            replace hd2 := Lib.hid hd2
            replace hres := Lib.hid hres
            replace hp := Lib.hid hp
            replace hV := Lib.hid hV
            replace hVe := Lib.hid hVe
            replace hN := Lib.hid hN
            replace hal := Lib.hid hal
            replace hok := Lib.hid hok
            replace hall := Lib.hid hall
            replace hNV := Lib.hid hNV
            go_wp2_with fail
            exact bodyPost_ret (v := .tuple #[.agg #[.int .i64 1, .bool false, .int .i64 ((N : Int)), .string ⟨#[]⟩, .bool false], .int .i64 0]) (by simp [results, Tryz.results28, go_sem]) rfl hf.out
set_option maxHeartbeats 16000000 in
set_option maxRecDepth 100000 in
theorem rlit_pos3 (s : ByteArray) (hs : s.size ≤ 1000000) (w : World) (d : List UInt8) (hsd : s.data.toList = d) (hne : d ≠ []) (h1 : s.data.toList ≠ nullL) (h2 : s.data.toList ≠ trueL) (h3 : s.data.toList ≠ falseL) (h45 : d.getD 0 0 ≠ 45) (hlen1 : 1 < s.size) (h39 : d.getD 0 0 = 39) (hl39 : d.getD (d.length - 1) 0 ≠ 39) :
    Calls Tryz.prog 28 #[.string s] w (RLitPost w (numP s.data.toList)) := by
  have e1 : (s.toList == [110, 117, 108, 108]) = false := by rw [beqL]; exact decide_eq_false h1
  have e2 : (s.toList == [116, 114, 117, 101]) = false := by rw [beqL]; exact decide_eq_false h2
  have e3 : (s.toList == [102, 97, 108, 115, 101]) = false := by rw [beqL]; exact decide_eq_false h3
  have hB : ∀ c : Array Value, Below w.heap.size w (w.alloc (.cells c 54)) := fun c => (Below.refl _ _).alloc (Nat.le_refl _) _
  have hsl : s.data.toList.length = s.size := by simp
  have hDd := hsd
  have hDl : s.size = d.length := by rw [← hsl, hsd]
  have hdl : 0 < d.length := List.length_pos_iff.2 hne
  obtain ⟨x, hxe⟩ : ∃ x, x = (d.getD 0 0).toNat := ⟨_, rfl⟩
  have hx0 : ∀ h : 0 < s.size, (s[0]'h).toNat = x := fun h => by rw [btS_get s 0 h]; unfold btS; rw [hsd, hxe]
  have k45 : ((x : Int) == 45) = false := by
    rw [hxe]
    have : (45 : UInt8).toNat = 45 := rfl
    simp only [beq_eq_false_iff_ne]
    intro e
    exact h45 (UInt8.toNat_inj.1 (by omega))
  have hg : ∀ (x : RV × Nat) (v : Value), numP s.data.toList = x → x.1.rval = v → ∀ c, RLitPost w (numP s.data.toList) (.returned (.tuple #[v, .int .i64 (x.2 : Int)])) (w.alloc (.cells c 54)) := by
    rintro x v hx rfl c
    rw [hx]
    exact ⟨rfl, hB _⟩
  have htr : trimPrefix s.data.toList [45] = d := by
    rw [hsd]
    unfold trimPrefix
    rw [if_neg]
    cases d with
    | nil => exact absurd rfl hne
    | cons c r =>
      unfold hasPrefix
      simp only [List.isPrefixOf, Bool.and_true, beq_iff_eq]
      intro e
      exact h45 e.symm
  have hdef : numP s.data.toList = if allDig d = false ∨ d = [] ∨ (d.getD 0 0 = 48 ∧ s.data.toList ≠ [48]) then (badV, 11) else match parseIntB 32 s.data.toList with
    | .ok n => (⟨1, false, n, ByteArray.empty, false⟩, 0)
    | _ => (badV, 16) := by unfold numP; rw [htr]; rfl
  generalize numP s.data.toList = res at *
  generalize RLitPost w res = post at *
  have hs1 : (s.size : Int) ≤ 1000000 := by omega
  have g0I : (s.size : Int) > 0 := by omega
  have g1I : (s.size : Int) > 1 := by omega
  have k39 : ((x : Int) == 39) = true := by rw [hxe, h39]; rfl
  obtain ⟨y, hye⟩ : ∃ y, y = (d.getD (d.length - 1) 0).toNat := ⟨_, rfl⟩
  have hxl : ∀ h : s.size - 1 < s.size, (s[s.size - 1]'h).toNat = y := fun h => by rw [btS_get s _ h]; unfold btS; rw [hsd, hye, hDl]
  have ky : ((y : Int) == 39) = false := by
    rw [hye]
    have : (39 : UInt8).toNat = 39 := rfl
    simp only [beq_eq_false_iff_ne]
    intro e
    exact hl39 (UInt8.toNat_inj.1 (by omega))
  replace h39 := Lib.hid h39
  replace hl39 := Lib.hid hl39
  replace hye := Lib.hid hye
  replace hg := Lib.hid hg
  replace hdef := Lib.hid hdef
  replace hB := Lib.hid hB
  replace htr := Lib.hid htr
  replace h1 := Lib.hid h1
  replace h2 := Lib.hid h2
  replace h3 := Lib.hid h3
  replace h45 := Lib.hid h45
  replace hxe := Lib.hid hxe
  clear hsl
  have hsdk := Lib.hid hsd
  have hnek := Lib.hid hne
  have hDdk := Lib.hid hDd
  replace hsd := Lib.hid hsd
  replace hne := Lib.hid hne
  replace hDd := Lib.hid hDd
  replace hDl := Lib.hid hDl
  go_enter Tryz.func28, Tryz.ntmps28
  go_upto_region 25 with fail
  clear hx0 hxl
  replace hsd := hsd.out
  replace hne := hne.out
  replace hDd := hDd.out
  replace hDl := hDl.out
  clear hsdk hnek hDdk
  have hDg : ∀ (j : Nat) (h : j < s.size), (s[j]'h).toNat = (d.getD j 0).toNat := fun j h => by rw [btS_get s j h]; unfold btS; rw [hDd]
  obtain ⟨x0, hx0e⟩ : ∃ x, x = (d.getD 0 0).toNat := ⟨_, rfl⟩
  have hD0 : ∀ h : 0 < s.size, (s[0]'h).toNat = x0 := fun h => by rw [hDg 0 h, hx0e]
  have hDn : (s.toList == ([] : List UInt8)) = false := by rw [beqL, hDd]; exact decide_eq_false hne
  have hDp : 0 < s.size := by rw [hDl]; exact List.length_pos_iff.2 hne
  replace hDn := hDn
  by_cases hlead : d.getD 0 0 = 48 ∧ s.data.toList ≠ [48]
  · have hres : res = (badV, 11) := by rw [hdef.out, if_pos (.inr (.inr hlead))]
    have k48 : ((x0 : Int) == 48) = true := by rw [hx0e, hlead.1]; rfl
    have z1 : (s.toList == [48]) = false := by rw [beqL]; exact decide_eq_false hlead.2
    have z2 : (s.toList != [48]) = true := by simp only [bne, z1]; rfl
    have hf := hg.out (badV, 11) (.agg #[.int .i64 0, .bool false, .int .i64 0, .string ⟨#[]⟩, .bool false]) hres rfl #[.int .i64 0, .bool false, .int .i64 0, .string ⟨#[]⟩, .bool false]
    replace hf := Lib.hid hf
    replace hres := Lib.hid hres
    replace hx0e := Lib.hid hx0e
    replace hlead := Lib.hid hlead
    replace hDg := Lib.hid hDg
    replace hDd := Lib.hid hDd
    replace hne := Lib.hid hne
    replace hsd := Lib.hid hsd
    go_wp2_with fail
    exact bodyPost_ret (v := .tuple #[.agg #[.int .i64 0, .bool false, .int .i64 0, .string ⟨#[]⟩, .bool false], .int .i64 11]) (by simp [results, Tryz.results28, go_sem]) rfl hf.out
  · have hgo : ((x0 : Int) == 48) = false ∨ (((x0 : Int) == 48) = true ∧ (s.toList == [48]) = true ∧ (s.toList != [48]) = false) := by
      by_cases h48 : d.getD 0 0 = 48
      · have hs48 : s.data.toList = [48] := Classical.byContradiction fun e => hlead ⟨h48, e⟩
        have z1 : (s.toList == [48]) = true := by rw [beqL]; exact decide_eq_true hs48
        exact .inr ⟨by rw [hx0e, h48]; rfl, z1, by simp only [bne, z1]; rfl⟩
      · refine .inl ?_
        rw [hx0e]
        have : (48 : UInt8).toNat = 48 := rfl
        simp only [beq_eq_false_iff_ne]
        intro e
        exact h48 (UInt8.toNat_inj.1 (by omega))
    replace hx0e := Lib.hid hx0e
    have hne2 := hne
    replace hne := Lib.hid hne
    replace hsd := Lib.hid hsd
    rcases hgo with k48 | ⟨k48, z1, z2⟩
    all_goals
      replace hlead := Lib.hid hlead
      replace hDg := Lib.hid hDg
      go_upto_region 28 with fail
      go_wp2_with fail
      go_loop [7, 8] (fun n i => ∃ k : Nat, k ≤ d.length ∧ allDig (d.take k) = true ∧ i = .int .i64 k ∧ n = .int .i64 (capFrom 0 (d.take k) : Nat)) (fun _ i => s.size - (RowKit.intOf i).toNat)
      case atStart => exact ⟨0, by omega, rfl, rfl, rfl⟩
      case round =>
        obtain ⟨k, hk, hal, rfl, rfl⟩ := hrel
        have hcb := cap_le (d.take k)
        by_cases hlt : k < s.size
        · have hlI : (k : Int) < s.size := by omega
          obtain ⟨c, hc⟩ : ∃ c, d.getD k 0 = c := ⟨_, rfl⟩
          have hg0 : ∀ h : k < s.size, (s[k]'h).toNat = c.toNat := fun h => by rw [hDg.out k h, hc]
          have htk : d.take (k + 1) = d.take k ++ [c] := by rw [take_getD d k 0 (by omega), hc]
          have hcap := cap_snoc (d.take k) c
          have hdig := dig_snoc (d.take k) c
          rw [← htk] at hcap hdig
          rw [hal, Bool.true_and] at hdig
          obtain ⟨cn, hcn⟩ : ∃ x, x = c.toNat := ⟨_, rfl⟩
          have hcl : cn < 256 := by rw [hcn]; exact UInt8.toNat_lt c
          rw [← hcn] at hg0 hcap hdig
          obtain ⟨N, hN⟩ : ∃ x, x = capFrom 0 (d.take k) := ⟨_, rfl⟩
          rw [← hN] at hcap hcb
          rw [← hN]
          by_cases h1 : cn < 48
          · have h1I : (cn : Int) < 48 := by omega
            have hnd : allDig d = false := not_dig hc (by omega) (by rw [← hcn]; omega)
            have hres : res = (badV, 11) := by rw [hdef.out, if_pos (.inl hnd)]
            have hf := hg.out (badV, 11) (.agg #[.int .i64 0, .bool false, .int .i64 0, .string ⟨#[]⟩, .bool false]) hres rfl #[.int .i64 0, .bool false, .int .i64 0, .string ⟨#[]⟩, .bool false]
            replace hf := Lib.hid hf
            replace hres := Lib.hid hres
            replace hnd := Lib.hid hnd
            replace hcap := Lib.hid hcap
            replace hdig := Lib.hid hdig
            replace hN := Lib.hid hN
            replace hcn := Lib.hid hcn
            replace hc := Lib.hid hc
            replace htk := Lib.hid htk
            replace hal := Lib.hid hal
            go_wp2_with fail
            exact bodyPost_ret (v := .tuple #[.agg #[.int .i64 0, .bool false, .int .i64 0, .string ⟨#[]⟩, .bool false], .int .i64 11]) (by simp [results, Tryz.results28, go_sem]) rfl hf.out
          · have h1I : ¬ (cn : Int) < 48 := by omega
            by_cases h2 : 57 < cn
            · have h2I : (cn : Int) > 57 := by omega
              have hnd : allDig d = false := not_dig hc (by omega) (by rw [← hcn]; omega)
              have hres : res = (badV, 11) := by rw [hdef.out, if_pos (.inl hnd)]
              have hf := hg.out (badV, 11) (.agg #[.int .i64 0, .bool false, .int .i64 0, .string ⟨#[]⟩, .bool false]) hres rfl #[.int .i64 0, .bool false, .int .i64 0, .string ⟨#[]⟩, .bool false]
              replace hf := Lib.hid hf
              replace hres := Lib.hid hres
              replace hnd := Lib.hid hnd
              replace hcap := Lib.hid hcap
              replace hdig := Lib.hid hdig
              replace hN := Lib.hid hN
              replace hcn := Lib.hid hcn
              replace hc := Lib.hid hc
              replace htk := Lib.hid htk
              replace hal := Lib.hid hal
              go_wp2_with fail
              exact bodyPost_ret (v := .tuple #[.agg #[.int .i64 0, .bool false, .int .i64 0, .string ⟨#[]⟩, .bool false], .int .i64 11]) (by simp [results, Tryz.results28, go_sem]) rfl hf.out
            · have h2I : ¬ (cn : Int) > 57 := by omega
              have hdg : allDig (d.take (k + 1)) = true := by rw [hdig, decide_eq_true (show 48 ≤ cn by omega), decide_eq_true (show cn ≤ 57 by omega)]; rfl
              obtain ⟨M, hM⟩ : ∃ x, x = min (10 * N + (cn - 48)) 1099511627776 := ⟨_, rfl⟩
              rw [← hM] at hcap
              have m1 : min (10 * (N : Int) + ((cn : Int) - 48)) 1099511627776 = (M : Int) := by rw [hM]; omega
              have m2 : (if (1099511627776 : Int) < 10 * (N : Int) + ((cn : Int) - 48) then (1099511627776 : Int) else 10 * (N : Int) + ((cn : Int) - 48)) = (M : Int) := by rw [hM]; split <;> omega
              replace hM := Lib.hid hM
              replace hcap := Lib.hid hcap
              replace hdig := Lib.hid hdig
              replace hdg := Lib.hid hdg
              replace hN := Lib.hid hN
              replace hcn := Lib.hid hcn
              replace hc := Lib.hid hc
              replace htk := Lib.hid htk
              replace hal := Lib.hid hal
              go_wp2_with fail
              go_round
              case rel => exact ⟨k + 1, by omega, hdg.out, by go_num, by rw [hcap.out]⟩
              case measure => simp [RowKit.intOf]; omega
        · have hkI : ¬ (k : Int) < s.size := by omega
          have hall : d.take k = d := List.take_of_length_le (by omega)
          rw [hall] at hal hcb
          rw [hall]
          have hV := cap_val d 0
          rw [Nat.zero_min] at hV
          obtain ⟨V, hVe⟩ : ∃ x, x = valFrom 0 d := ⟨_, rfl⟩
          rw [← hVe] at hV
          obtain ⟨N, hN⟩ : ∃ x, x = capFrom 0 d := ⟨_, rfl⟩
          rw [← hN] at hV hcb
          rw [← hN]
          have hok : ¬ (allDig d = false ∨ d = [] ∨ (d.getD 0 0 = 48 ∧ s.data.toList ≠ [48])) := by
            rintro (h | h | h)
            · rw [hal] at h; cases h
            · exact hne2 h
            · exact hlead.out h
          have hd2 := hdef.out
          rw [if_neg hok] at hd2
          have hlen : ¬ (s.size : Int) < s.size := by omega
          by_cases hbig : 2147483648 ≤ V
          · have hp : parseIntB 32 s.data.toList = .range := by rw [hsd.out, parse_pos d hne2 hal, ← hVe, if_neg (by omega)]
            rw [hp] at hd2
            have hres : res = (badV, 16) := hd2
            have hb0 : ¬ (N : Int) < -2147483648 := by omega
            have hb1 : (N : Int) ≥ 2147483648 := by omega
            have hf := hg.out (badV, 16) (.agg #[.int .i64 0, .bool false, .int .i64 0, .string ⟨#[]⟩, .bool false]) hres rfl #[.int .i64 0, .bool false, .int .i64 0, .string ⟨#[]⟩, .bool false]
            replace hf := Lib.hid hf
            replace hd2 := Lib.hid hd2
            replace hres := Lib.hid hres
            replace hp := Lib.hid hp
            replace hV := Lib.hid hV
            replace hVe := Lib.hid hVe
            replace hN := Lib.hid hN
            replace hal := Lib.hid hal
            replace hok := Lib.hid hok
            replace hall := Lib.hid hall
            go_wp2_with fail
            exact bodyPost_ret (v := .tuple #[.agg #[.int .i64 0, .bool false, .int .i64 0, .string ⟨#[]⟩, .bool false], .int .i64 16]) (by simp [results, Tryz.results28, go_sem]) rfl hf.out
          · have hp : parseIntB 32 s.data.toList = .ok ((V : Int)) := by rw [hsd.out, parse_pos d hne2 hal, ← hVe, if_pos (by omega)]
            rw [hp] at hd2
            have hres : res = (⟨1, false, (V : Int), ByteArray.empty, false⟩, 0) := hd2
            have hNV : N = V := by omega
            have hb0 : ¬ (N : Int) < -2147483648 := by omega
            have hb1 : ¬ (N : Int) ≥ 2147483648 := by omega
            have hf := hg.out (⟨1, false, (V : Int), ByteArray.empty, false⟩, 0) (.agg #[.int .i64 1, .bool false, .int .i64 ((V : Int)), .string ⟨#[]⟩, .bool false]) hres rfl #[.int .i64 1, .bool false, .int .i64 ((V : Int)), .string ⟨#[]⟩, .bool false]
            rw [← hNV] at hf
            replace hf := Lib.hid hf
            replace hd2 := Lib.hid hd2
            replace hres := Lib.hid hres
            replace hp := Lib.hid hp
            replace hV := Lib.hid hV
            replace hVe := Lib.hid hVe
            replace hN := Lib.hid hN
            replace hal := Lib.hid hal
            replace hok := Lib.hid hok
            replace hall := Lib.hid hall
            replace hNV := Lib.hid hNV
            go_wp2_with fail
            exact bodyPost_ret (v := .tuple #[.agg #[.int .i64 1, .bool false, .int .i64 ((N : Int)), .string ⟨#[]⟩, .bool false], .int .i64 0]) (by simp [results, Tryz.results28, go_sem]) rfl hf.out
end Go.Proofs.YtpjbcadelmjmfaaGreatDoor
