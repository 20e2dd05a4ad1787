/- The walk of the reference's Literal at numbers. -/
import Derived.Test.YtpjbcadelmjmfaaGreatDoorR31
set_option linter.unusedVariables false
namespace Go.Proofs.YtpjbcadelmjmfaaGreatDoor
open Go.RowKit Go.Lib

theorem capS (l : List UInt8) : ∀ (a : Nat) (c : UInt8), capFrom a (l ++ [c]) = min (10 * capFrom a l + (c.toNat - 48)) 1099511627776 := by
  induction l with
  | nil => intro a c; rfl
  | cons x r ih => intro a c; exact ih _ c
theorem cap_snoc (l : List UInt8) (c : UInt8) : capFrom 0 (l ++ [c]) = min (10 * capFrom 0 l + (c.toNat - 48)) 1099511627776 := capS l 0 c
theorem cap_le (l : List UInt8) : capFrom 0 l ≤ 1099511627776 := by
  have := cap_val l 0
  rw [Nat.zero_min] at this
  omega
theorem dig_snoc (l : List UInt8) (c : UInt8) : allDig (l ++ [c]) = (allDig l && (decide (48 ≤ c.toNat) && decide (c.toNat ≤ 57))) := by
  unfold allDig
  simp
theorem not_dig {d : List UInt8} {k : Nat} {c : UInt8} (hc : d.getD k 0 = c) (hk : k < d.length) (h : ¬ (48 ≤ c.toNat ∧ c.toNat ≤ 57)) : allDig d = false := by
  unfold allDig
  rw [List.all_eq_false]
  refine ⟨c, ?_, by simpa using h⟩
  rw [← hc, List.getD, List.getElem?_eq_getElem hk]
  exact List.getElem_mem hk
set_option maxHeartbeats 16000000 in
set_option maxRecDepth 100000 in
theorem rlit_num_neg (s : ByteArray) (hs : s.size ≤ 1000000) (w : World) (d : List UInt8) (hsd : s.data.toList = 45 :: d) (hne : d ≠ []) :
    Calls Tryz.prog 28 #[.string s] w (RLitPost w (numP s.data.toList)) := by
  have e1 : (s.toList == [110, 117, 108, 108]) = false := by rw [beqL, hsd]; exact decide_eq_false (by intro e; injection e with e _; exact absurd e (by decide))
  have e2 : (s.toList == [116, 114, 117, 101]) = false := by rw [beqL, hsd]; exact decide_eq_false (by intro e; injection e with e _; exact absurd e (by decide))
  have e3 : (s.toList == [102, 97, 108, 115, 101]) = false := by rw [beqL, hsd]; exact decide_eq_false (by intro e; injection e with e _; exact absurd e (by decide))
  have hB : ∀ c : Array Value, Below w.heap.size w (w.alloc (.cells c 54)) := fun c => (Below.refl _ _).alloc (Nat.le_refl _) _
  have hsl : s.data.toList.length = s.size := by simp
  have hsz : s.size = d.length + 1 := by rw [← hsl, hsd]; rfl
  have hdl : 0 < d.length := List.length_pos_iff.2 hne
  have hx0 : ∀ h : 0 < s.size, (s[0]'h).toNat = 45 := fun h => by rw [btS_get s 0 h]; unfold btS; rw [hsd]; rfl
  obtain ⟨D, hDe⟩ : ∃ D, D = s.extract 1 s.size := ⟨_, rfl⟩
  have hDd : D.data.toList = d := by rw [hDe, extract_data, hsd]; exact List.take_of_length_le (by simp; omega)
  have hDl : D.size = d.length := by rw [← hDd]; simp
  have hsl2 : ∀ wx, (Instr.slice 9 (.string s) (some (.int .i64 1)) none none).run Tryz.prog wx = .ok (.string D) wx := by
    intro wx
    rw [hDe]
    have h5 := run_slice_string_from_if (P := Tryz.prog) wx 9 s .i64 1 Tryz.underlying9
    rw [h5, if_pos ⟨by omega, by omega⟩]
    rfl
  have hg : ∀ (x : RV × Nat) (v : Value), numP s.data.toList = x → x.1.rval = v → ∀ c, RLitPost w (numP s.data.toList) (.returned (.tuple #[v, .int .i64 (x.2 : Int)])) (w.alloc (.cells c 54)) := by
    rintro x v hx rfl c
    rw [hx]
    exact ⟨rfl, hB _⟩
  have htr : trimPrefix s.data.toList [45] = d := by rw [hsd]; unfold trimPrefix; rw [if_pos (by simp [hasPrefix])]; rfl
  have hdef : numP s.data.toList = if allDig d = false ∨ d = [] ∨ (d.getD 0 0 = 48 ∧ s.data.toList ≠ [48]) then (badV, 11) else match parseIntB 32 s.data.toList with
    | .ok n => (⟨1, false, n, ByteArray.empty, false⟩, 0)
    | _ => (badV, 16) := by unfold numP; rw [htr]; rfl
  generalize numP s.data.toList = res at *
  generalize RLitPost w res = post at *
  have hs1 : (s.size : Int) ≤ 1000000 := by omega
  have g1I : (s.size : Int) > 1 := by omega
  replace hg := Lib.hid hg
  replace hdef := Lib.hid hdef
  replace hB := Lib.hid hB
  replace htr := Lib.hid htr
  replace hDe := Lib.hid hDe
  clear hsl
  go_enter Tryz.func28, Tryz.ntmps28
  go_upto_region 25 with fail
  have hDg : ∀ (j : Nat) (h : j < D.size), (D[j]'h).toNat = (d.getD j 0).toNat := fun j h => by rw [btS_get D j h]; unfold btS; rw [hDd]
  obtain ⟨x0, hx0e⟩ : ∃ x, x = (d.getD 0 0).toNat := ⟨_, rfl⟩
  have hD0 : ∀ h : 0 < D.size, (D[0]'h).toNat = x0 := fun h => by rw [hDg 0 h, hx0e]
  have hDn : (D.toList == ([] : List UInt8)) = false := by rw [beqL, hDd]; exact decide_eq_false hne
  have hDp : 0 < D.size := by rw [hDl]; exact List.length_pos_iff.2 hne
  replace hDn := hDn
  by_cases hlead : d.getD 0 0 = 48 ∧ s.data.toList ≠ [48]
  · have hres : res = (badV, 11) := by rw [hdef.out, if_pos (.inr (.inr hlead))]
    have k48 : ((x0 : Int) == 48) = true := by rw [hx0e, hlead.1]; rfl
    have z1 : (s.toList == [48]) = false := by rw [beqL]; exact decide_eq_false hlead.2
    have z2 : (s.toList != [48]) = true := by simp only [bne, z1]; rfl
    have hf := hg.out (badV, 11) (.agg #[.int .i64 0, .bool false, .int .i64 0, .string ⟨#[]⟩, .bool false]) hres rfl #[.int .i64 0, .bool false, .int .i64 0, .string ⟨#[]⟩, .bool false]
    replace hf := Lib.hid hf
    replace hres := Lib.hid hres
    replace hx0e := Lib.hid hx0e
    replace hlead := Lib.hid hlead
    replace hDg := Lib.hid hDg
    replace hDd := Lib.hid hDd
    replace hne := Lib.hid hne
    replace hsd := Lib.hid hsd
    go_wp2_with fail
    exact bodyPost_ret (v := .tuple #[.agg #[.int .i64 0, .bool false, .int .i64 0, .string ⟨#[]⟩, .bool false], .int .i64 11]) (by simp [results, Tryz.results28, go_sem]) rfl hf.out
  · have hgo : ((x0 : Int) == 48) = false ∨ (((x0 : Int) == 48) = true ∧ (s.toList == [48]) = true ∧ (s.toList != [48]) = false) := by
      by_cases h48 : d.getD 0 0 = 48
      · have hs48 : s.data.toList = [48] := Classical.byContradiction fun e => hlead ⟨h48, e⟩
        have z1 : (s.toList == [48]) = true := by rw [beqL]; exact decide_eq_true hs48
        exact .inr ⟨by rw [hx0e, h48]; rfl, z1, by simp only [bne, z1]; rfl⟩
      · refine .inl ?_
        rw [hx0e]
        have : (48 : UInt8).toNat = 48 := rfl
        simp only [beq_eq_false_iff_ne]
        intro e
        exact h48 (UInt8.toNat_inj.1 (by omega))
    replace hx0e := Lib.hid hx0e
    have hne2 := hne
    replace hne := Lib.hid hne
    replace hsd := Lib.hid hsd
    rcases hgo with k48 | ⟨k48, z1, z2⟩
    all_goals
      replace hlead := Lib.hid hlead
      replace hDg := Lib.hid hDg
      go_upto_region 28 with fail
      go_wp2_with fail
      go_loop [7, 8] (fun n i => ∃ k : Nat, k ≤ d.length ∧ allDig (d.take k) = true ∧ i = .int .i64 k ∧ n = .int .i64 (capFrom 0 (d.take k) : Nat)) (fun _ i => D.size - (RowKit.intOf i).toNat)
      case atStart => exact ⟨0, by omega, rfl, rfl, rfl⟩
      case round =>
        obtain ⟨k, hk, hal, rfl, rfl⟩ := hrel
        have hcb := cap_le (d.take k)
        by_cases hlt : k < D.size
        · have hlI : (k : Int) < D.size := by omega
          obtain ⟨c, hc⟩ : ∃ c, d.getD k 0 = c := ⟨_, rfl⟩
          have hg0 : ∀ h : k < D.size, (D[k]'h).toNat = c.toNat := fun h => by rw [hDg.out k h, hc]
          have htk : d.take (k + 1) = d.take k ++ [c] := by rw [take_getD d k 0 (by omega), hc]
          have hcap := cap_snoc (d.take k) c
          have hdig := dig_snoc (d.take k) c
          rw [← htk] at hcap hdig
          rw [hal, Bool.true_and] at hdig
          obtain ⟨cn, hcn⟩ : ∃ x, x = c.toNat := ⟨_, rfl⟩
          have hcl : cn < 256 := by rw [hcn]; exact UInt8.toNat_lt c
          rw [← hcn] at hg0 hcap hdig
          obtain ⟨N, hN⟩ : ∃ x, x = capFrom 0 (d.take k) := ⟨_, rfl⟩
          rw [← hN] at hcap hcb
          rw [← hN]
          by_cases h1 : cn < 48
          · have h1I : (cn : Int) < 48 := by omega
            have hnd : allDig d = false := not_dig hc (by omega) (by rw [← hcn]; omega)
            have hres : res = (badV, 11) := by rw [hdef.out, if_pos (.inl hnd)]
            have hf := hg.out (badV, 11) (.agg #[.int .i64 0, .bool false, .int .i64 0, .string ⟨#[]⟩, .bool false]) hres rfl #[.int .i64 0, .bool false, .int .i64 0, .string ⟨#[]⟩, .bool false]
            replace hf := Lib.hid hf
            replace hres := Lib.hid hres
            replace hnd := Lib.hid hnd
            replace hcap := Lib.hid hcap
            replace hdig := Lib.hid hdig
            replace hN := Lib.hid hN
            replace hcn := Lib.hid hcn
            replace hc := Lib.hid hc
            replace htk := Lib.hid htk
            replace hal := Lib.hid hal
            go_wp2_with fail
            exact bodyPost_ret (v := .tuple #[.agg #[.int .i64 0, .bool false, .int .i64 0, .string ⟨#[]⟩, .bool false], .int .i64 11]) (by simp [results, Tryz.results28, go_sem]) rfl hf.out
          · have h1I : ¬ (cn : Int) < 48 := by omega
            by_cases h2 : 57 < cn
            · have h2I : (cn : Int) > 57 := by omega
              have hnd : allDig d = false := not_dig hc (by omega) (by rw [← hcn]; omega)
              have hres : res = (badV, 11) := by rw [hdef.out, if_pos (.inl hnd)]
              have hf := hg.out (badV, 11) (.agg #[.int .i64 0, .bool false, .int .i64 0, .string ⟨#[]⟩, .bool false]) hres rfl #[.int .i64 0, .bool false, .int .i64 0, .string ⟨#[]⟩, .bool false]
              replace hf := Lib.hid hf
              replace hres := Lib.hid hres
              replace hnd := Lib.hid hnd
              replace hcap := Lib.hid hcap
              replace hdig := Lib.hid hdig
              replace hN := Lib.hid hN
              replace hcn := Lib.hid hcn
              replace hc := Lib.hid hc
              replace htk := Lib.hid htk
              replace hal := Lib.hid hal
              go_wp2_with fail
              exact bodyPost_ret (v := .tuple #[.agg #[.int .i64 0, .bool false, .int .i64 0, .string ⟨#[]⟩, .bool false], .int .i64 11]) (by simp [results, Tryz.results28, go_sem]) rfl hf.out
            · have h2I : ¬ (cn : Int) > 57 := by omega
              have hdg : allDig (d.take (k + 1)) = true := by rw [hdig, decide_eq_true (show 48 ≤ cn by omega), decide_eq_true (show cn ≤ 57 by omega)]; rfl
              obtain ⟨M, hM⟩ : ∃ x, x = min (10 * N + (cn - 48)) 1099511627776 := ⟨_, rfl⟩
              rw [← hM] at hcap
              have m1 : min (10 * (N : Int) + ((cn : Int) - 48)) 1099511627776 = (M : Int) := by rw [hM]; omega
              have m2 : (if (1099511627776 : Int) < 10 * (N : Int) + ((cn : Int) - 48) then (1099511627776 : Int) else 10 * (N : Int) + ((cn : Int) - 48)) = (M : Int) := by rw [hM]; split <;> omega
              replace hM := Lib.hid hM
              replace hcap := Lib.hid hcap
              replace hdig := Lib.hid hdig
              replace hdg := Lib.hid hdg
              replace hN := Lib.hid hN
              replace hcn := Lib.hid hcn
              replace hc := Lib.hid hc
              replace htk := Lib.hid htk
              replace hal := Lib.hid hal
              go_wp2_with fail
              go_round
              case rel => exact ⟨k + 1, by omega, hdg.out, by go_num, by rw [hcap.out]⟩
              case measure => simp [RowKit.intOf]; omega
        · have hkI : ¬ (k : Int) < D.size := by omega
          have hall : d.take k = d := List.take_of_length_le (by omega)
          rw [hall] at hal hcb
          rw [hall]
          have hV := cap_val d 0
          rw [Nat.zero_min] at hV
          obtain ⟨V, hVe⟩ : ∃ x, x = valFrom 0 d := ⟨_, rfl⟩
          rw [← hVe] at hV
          obtain ⟨N, hN⟩ : ∃ x, x = capFrom 0 d := ⟨_, rfl⟩
          rw [← hN] at hV hcb
          rw [← hN]
          have hok : ¬ (allDig d = false ∨ d = [] ∨ (d.getD 0 0 = 48 ∧ s.data.toList ≠ [48])) := by
            rintro (h | h | h)
            · rw [hal] at h; cases h
            · exact hne2 h
            · exact hlead.out h
          have hd2 := hdef.out
          rw [if_neg hok] at hd2
          have hlen : (D.size : Int) < s.size := by omega
          by_cases hbig : 2147483648 < V
          · have hp : parseIntB 32 s.data.toList = .range := by rw [hsd.out, parse_neg d hne2 hal, ← hVe, if_neg (by omega)]
            rw [hp] at hd2
            have hres : res = (badV, 16) := hd2
            have hb1 : -(N : Int) < -2147483648 := by omega
            have hf := hg.out (badV, 16) (.agg #[.int .i64 0, .bool false, .int .i64 0, .string ⟨#[]⟩, .bool false]) hres rfl #[.int .i64 0, .bool false, .int .i64 0, .string ⟨#[]⟩, .bool false]
            replace hf := Lib.hid hf
            replace hd2 := Lib.hid hd2
            replace hres := Lib.hid hres
            replace hp := Lib.hid hp
            replace hV := Lib.hid hV
            replace hVe := Lib.hid hVe
            replace hN := Lib.hid hN
            replace hal := Lib.hid hal
            replace hok := Lib.hid hok
            replace hall := Lib.hid hall
            go_wp2_with fail
            exact bodyPost_ret (v := .tuple #[.agg #[.int .i64 0, .bool false, .int .i64 0, .string ⟨#[]⟩, .bool false], .int .i64 16]) (by simp [results, Tryz.results28, go_sem]) rfl hf.out
          · have hp : parseIntB 32 s.data.toList = .ok (-(V : Int)) := by rw [hsd.out, parse_neg d hne2 hal, ← hVe, if_pos (by omega)]
            rw [hp] at hd2
            have hres : res = (⟨1, false, -(V : Int), ByteArray.empty, false⟩, 0) := hd2
            have hNV : N = V := by omega
            have hb1 : ¬ -(N : Int) < -2147483648 := by omega
            have hb2 : ¬ -(N : Int) ≥ 2147483648 := by omega
            have hf := hg.out (⟨1, false, -(V : Int), ByteArray.empty, false⟩, 0) (.agg #[.int .i64 1, .bool false, .int .i64 (-(V : Int)), .string ⟨#[]⟩, .bool false]) hres rfl #[.int .i64 1, .bool false, .int .i64 (-(V : Int)), .string ⟨#[]⟩, .bool false]
            rw [← hNV] at hf
            replace hf := Lib.hid hf
            replace hd2 := Lib.hid hd2
            replace hres := Lib.hid hres
            replace hp := Lib.hid hp
            replace hV := Lib.hid hV
            replace hVe := Lib.hid hVe
            replace hN := Lib.hid hN
            replace hal := Lib.hid hal
            replace hok := Lib.hid hok
            replace hall := Lib.hid hall
            replace hNV := Lib.hid hNV
            go_wp2_with fail
            exact bodyPost_ret (v := .tuple #[.agg #[.int .i64 1, .bool false, .int .i64 (-(N : Int)), .string ⟨#[]⟩, .bool false], .int .i64 0]) (by simp [results, Tryz.results28, go_sem]) rfl hf.out
end Go.Proofs.YtpjbcadelmjmfaaGreatDoor
