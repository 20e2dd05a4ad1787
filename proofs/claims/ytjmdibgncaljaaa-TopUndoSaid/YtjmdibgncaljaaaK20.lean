/- crashset: next, plain laws: the digits of n + 1 from those of n. crashset: next. -/
import Derived.Test.YtjmdibgncaljaaaK13
import Derived.BigQuiet
/-! crashset: next, plain laws: the digits of n + 1 from those of n. -/
namespace Go.Proofs.Ytjmdibgncaljaaa.Dev
open Go.RowKit Go.Maps
variable {R : Dv} {ds : List Nat} {n j k : Nat}

theorem dig_at (R : Dv) : ∀ (ds : List Nat) (n j : Nat), j < ds.length → (digR R ds n).getD j 0 = restR R (ds.drop (j + 1)) n % baseL R (ds.getD j 0)
  | [], _, _, h => absurd h (by simp)
  | _ :: _, _, 0, _ => rfl
  | l :: r, n, j + 1, h => by
    have := dig_at R r n j (by simpa using h)
    exact this
/-- From place k on the digits of n are as great as may be: the carry. -/
structure Carry (R : Dv) (ds : List Nat) (n k : Nat) : Prop where
  r : restR R (ds.drop k) (n + 1) = restR R (ds.drop k) n + 1
  z : ∀ i, k ≤ i → i < ds.length → restR R (ds.drop (i + 1)) (n + 1) % baseL R (ds.getD i 0) = 0
theorem Carry.start (R : Dv) (ds : List Nat) (n : Nat) : Carry R ds n ds.length :=
  ⟨by rw [List.drop_length]; rfl, fun i h1 h2 => by omega⟩
theorem carry_div {x b : Nat} (hb : 0 < b) (h : x % b = b - 1) : (x + 1) % b = 0 ∧ (x + 1) / b = x / b + 1 := by
  have h1 := Nat.div_add_mod x b
  have h2 : x + 1 = b * (x / b + 1) := by rw [Nat.mul_add, Nat.mul_one]; omega
  exact ⟨by rw [h2]; exact Nat.mul_mod_right _ _, by rw [h2]; exact Nat.mul_div_cancel_left _ hb⟩
theorem stop_div {x b : Nat} (h : x % b + 1 < b) : (x + 1) % b = x % b + 1 ∧ (x + 1) / b = x / b := by
  have h1 := Nat.div_add_mod x b
  have h2 : x + 1 = (x % b + 1) + b * (x / b) := by omega
  have hb : 0 < b := by omega
  constructor
  · conv => lhs; rw [h2]
    rw [Nat.add_mul_mod_self_left, Nat.mod_eq_of_lt h]
  · conv => lhs; rw [h2]
    rw [Nat.add_mul_div_left _ _ hb, Nat.div_eq_of_lt h, Nat.zero_add]
theorem Carry.step (h : Carry R ds n (j + 1)) (hj : j < ds.length) (hd : (digR R ds n).getD j 0 = (R.line (ds.getD j 0)).hist.length) : Carry R ds n j := by
  rw [dig_at R ds n j hj] at hd
  have hb : baseL R (ds.getD j 0) = (R.line (ds.getD j 0)).hist.length + 1 := rfl
  obtain ⟨e1, e2⟩ := carry_div (x := restR R (ds.drop (j + 1)) n) (b := baseL R (ds.getD j 0)) (by omega) (by omega)
  refine ⟨?_, fun i h1 h2 => ?_⟩
  · rw [rest_step R ds (n + 1) j hj, rest_step R ds n j hj, h.r]; exact e2
  · by_cases e : i = j
    · subst e; rw [h.r]; exact e1
    · exact h.z i (by omega) h2
theorem rest_down (h : restR R (ds.drop k) (n + 1) = restR R (ds.drop k) n) (hk : k ≤ ds.length) : ∀ i, i ≤ k → restR R (ds.drop i) (n + 1) = restR R (ds.drop i) n := by
  induction k with
  | zero =>
    intro i hi
    have e : i = 0 := by omega
    subst e; exact h
  | succ k ih =>
    intro i hi
    by_cases e : i = k + 1
    · subst e; exact h
    · exact ih (by rw [rest_step R ds (n + 1) k (by omega), rest_step R ds n k (by omega), h]) (by omega) i (by omega)
/-- The row while the carry runs. -/
def rowK (dg : List Nat) (k : Nat) : List Nat := dg.take k ++ List.replicate (dg.length - k) 0
theorem rowK_len (dg : List Nat) (k : Nat) (h : k ≤ dg.length) : (rowK dg k).length = dg.length := by
  unfold rowK; rw [List.length_append, List.length_take, List.length_replicate]; omega
theorem rowK_at (dg : List Nat) (k i : Nat) : (rowK dg k).getD i 0 = if i < k then dg.getD i 0 else 0 := by
  unfold rowK
  rw [List.getD_eq_getElem?_getD, List.getD_eq_getElem?_getD]
  by_cases h : i < k
  · rw [if_pos h]
    by_cases h2 : i < dg.length
    · rw [List.getElem?_append_left (by rw [List.length_take]; omega), List.getElem?_take, if_pos h]
    · rw [List.getElem?_append_right (by rw [List.length_take]; omega), List.getElem?_replicate, List.getElem?_eq_none (show dg.length ≤ i by omega)]
      split <;> rfl
  · rw [if_neg h]
    by_cases h2 : i < (dg.take k).length
    · rw [List.length_take] at h2; omega
    · rw [List.getElem?_append_right (by omega), List.getElem?_replicate]
      split <;> rfl
theorem list_ext0 {a b : List Nat} (hl : a.length = b.length) (h : ∀ i, i < a.length → a.getD i 0 = b.getD i 0) : a = b := by
  apply List.ext_getElem?
  intro i
  by_cases hi : i < a.length
  · rw [get_of_lt 0 hi, get_of_lt 0 (by omega : i < b.length), h i hi]
  · rw [List.getElem?_eq_none (by omega), List.getElem?_eq_none (by omega)]
theorem rowK_step (dg : List Nat) (j : Nat) (hj : j < dg.length) : (rowK dg (j + 1)).set j 0 = rowK dg j := by
  have l1 := rowK_len dg (j + 1) (by omega)
  refine list_ext0 (by rw [List.length_set, l1, rowK_len dg j (by omega)]) (fun i hi => ?_)
  rw [getD_set _ _ _ _ _ (by rw [l1]; exact hj), rowK_at, rowK_at]
  by_cases e : i = j
  · subst e; rw [if_pos rfl, if_neg (by omega)]
  · rw [if_neg e]
    by_cases h : i < j
    · rw [if_pos h, if_pos (by omega)]
    · rw [if_neg h, if_neg (by omega)]
theorem Carry.stop (h : Carry R ds n (j + 1)) (hj : j < ds.length) (hd : (digR R ds n).getD j 0 < (R.line (ds.getD j 0)).hist.length) :
    (rowK (digR R ds n) (j + 1)).set j ((digR R ds n).getD j 0 + 1) = digR R ds (n + 1) ∧ restR R ds (n + 1) = restR R ds n := by
  have hdl := digR_len R ds n
  have l1 := rowK_len (digR R ds n) (j + 1) (by omega)
  rw [dig_at R ds n j hj] at hd
  have hb : baseL R (ds.getD j 0) = (R.line (ds.getD j 0)).hist.length + 1 := rfl
  obtain ⟨e1, e2⟩ := stop_div (x := restR R (ds.drop (j + 1)) n) (b := baseL R (ds.getD j 0)) (by omega)
  have hdn := rest_down (R := R) (ds := ds) (n := n) (k := j) (by rw [rest_step R ds (n + 1) j hj, rest_step R ds n j hj, h.r]; exact e2) (by omega)
  refine ⟨list_ext0 (by rw [List.length_set, l1, hdl, digR_len]) (fun i hi => ?_), by have := hdn 0 (by omega); simpa using this⟩
  rw [List.length_set, l1, hdl] at hi
  rw [getD_set _ _ _ _ _ (by rw [l1, hdl]; exact hj), rowK_at, dig_at R ds (n + 1) i hi]
  by_cases e : i = j
  · subst e; rw [if_pos rfl, h.r, e1, dig_at R ds n i hi]
  · rw [if_neg e]
    by_cases hlt : i < j + 1
    · rw [if_pos hlt, dig_at R ds n i hi, hdn (i + 1) (by omega)]
    · rw [if_neg hlt, h.z i (by omega) hi]
theorem Carry.all (h : Carry R ds n 0) : restR R ds (n + 1) = restR R ds n + 1 := by have := h.r; simpa using this
end Go.Proofs.Ytjmdibgncaljaaa.Dev

/-! crashset: next. -/
namespace Go.Proofs.Ytjmdibgncaljaaa.Dev
open Go.RowKit Go.Maps
variable {w : World} {T : Nat} {R : Dv}
/-- What next does to a row of digits in block b. -/
def CNextPost (w : World) (R : Dv) (n b : Nat) (e : Ending) (w' : World) : Prop :=
  Only (fun q => q = b) w w' ∧ ((e = .returned (.bool true) ∧ restR R (dirtyL R) (n + 1) = restR R (dirtyL R) n ∧ Has w' b (nats (digR R (dirtyL R) (n + 1))) 3) ∨
    (e = .returned (.bool false) ∧ restR R (dirtyL R) (n + 1) = restR R (dirtyL R) n + 1))
set_option maxHeartbeats 2000000 in
set_option maxRecDepth 100000 in
theorem cnext_any (hok : R.Ok T) {pv lv hv : Value} (hs : SetSt w R pv lv hv) (n b : Nat) (hb : Has w b (nats (digR R (dirtyL R) n)) 3) (hbo : 0 < (dirtyL R).length → ∀ q, hv.ownBlock = some q → q ≠ b) :
    Calls Try.prog 60 #[.agg #[pv, lv, hv], .slice (some ⟨b, 0, none⟩) (dirtyL R).length (dirtyL R).length] w (CNextPost w R n b) := by
  generalize hpost : CNextPost w R n b = post
  have ht := hok.t
  have hn2 := hok.n2
  have hdl0 : (dirtyL R).length ≤ R.lines.length := dirtyTo_len R R.lines.length
  have hdm : ∀ k, k < (dirtyL R).length → (dirtyL R)[k]? = some ((dirtyL R).getD k 0) ∧ (R.line ((dirtyL R).getD k 0)).hist.length ≤ 100000 := fun k hk => by
    have h1 := get_of_lt 0 hk
    have h2 := (hok.ln _ (dirtyTo_mem (List.mem_of_getElem? h1)).1).hl
    exact ⟨h1, by omega⟩
  have hdl := digR_len R (dirtyL R) n
  have hdle : ∀ k, k < (dirtyL R).length → (digR R (dirtyL R) n).getD k 0 ≤ (R.line ((dirtyL R).getD k 0)).hist.length := fun k hk => digR_le R _ n k _ (get_of_lt 0 hk)
  have hc0 := Carry.start R (dirtyL R) n
  have hrz : rowK (digR R (dirtyL R) n) (dirtyL R).length = digR R (dirtyL R) n := by unfold rowK; rw [← hdl]; simp
  have hT : ∀ w', Only (fun q => q = b) w w' → restR R (dirtyL R) (n + 1) = restR R (dirtyL R) n → Has w' b (nats (digR R (dirtyL R) (n + 1))) 3 → post (.returned (.bool true)) w' := fun w' h1 h2 h3 => by
    rw [← hpost]; exact ⟨h1, .inl ⟨rfl, h2, h3⟩⟩
  have hF : ∀ w', Only (fun q => q = b) w w' → Carry R (dirtyL R) n 0 → post (.returned (.bool false)) w' := fun w' h1 h2 => by
    rw [← hpost]; exact ⟨h1, .inr ⟨rfl, h2.all⟩⟩
  obtain ⟨⟨pb, rfl, _⟩, ⟨la, lc, rfl, _⟩, ⟨ha, hc, vs, rfl, hH, hr⟩⟩ := hs
  have hHg := hH.2
  have hsb := hb.lt
  have hbk : b ≠ w.heap.size := by omega
  have hS := Has.new w [.slice (some ⟨pb, 0, none⟩) (bytesL R.perW).length (bytesL R.perW).length, .slice la (dirtyL R).length lc, .slice ha (dirtyL R).length hc] 127
  have hO0 : Only (fun q => q = b) w (w.alloc (.cells #[.slice (some ⟨pb, 0, none⟩) (bytesL R.perW).length (bytesL R.perW).length, .slice la (dirtyL R).length lc, .slice ha (dirtyL R).length hc] 127)) := (Only.refl _ _).alloc _
  have hA0 := hb.alloc (.cells #[.slice (some ⟨pb, 0, none⟩) (bytesL R.perW).length (bytesL R.perW).length, .slice la (dirtyL R).length lc, .slice ha (dirtyL R).length hc] 127)
  rw [← hrz] at hA0
  have hst := fun j (h : Carry R (dirtyL R) n (j + 1)) (hj : j < (dirtyL R).length) hd => h.step hj hd
  have hsp := fun j (h : Carry R (dirtyL R) n (j + 1)) (hj : j < (dirtyL R).length) hd => h.stop hj hd
  have hks := rowK_step (digR R (dirtyL R) n)
  have hkl := rowK_len (digR R (dirtyL R) n)
  have hka := rowK_at (digR R (dirtyL R) n)
  rw [hdl] at hks hkl
  generalize (bytesL R.perW).length = np at *
  generalize digR R (dirtyL R) (n + 1) = dg1 at *
  generalize digR R (dirtyL R) n = dg at *
  generalize dirtyL R = ds at *
  replace hT := Lib.hid hT
  replace hF := Lib.hid hF
  replace hdm := Lib.hid hdm
  replace hdle := Lib.hid hdle
  replace hHg := Lib.hid hHg
  replace hS := Lib.hid hS
  replace hO0 := Lib.hid hO0
  replace hA0 := Lib.hid hA0
  replace hst := Lib.hid hst
  replace hsp := Lib.hid hsp
  replace hks := Lib.hid hks
  replace hkl := Lib.hid hkl
  replace hka := Lib.hid hka
  replace hbo := Lib.hid hbo
  replace hr := Lib.hid hr
  replace hc0 := Lib.hid hc0
  clear hpost hok hH hb hrz
  go_enter Try.func60, Try.ntmps60
  go_wp2_with fail
  go_loopw [5] (fun iv wr => ∃ k : Nat, k ≤ ds.length ∧ iv = .int .i64 ((k : Int) - 1) ∧ Carry R ds n k ∧ Has wr b (nats (rowK dg k)) 3 ∧ Has wr w.heap.size [.slice (some ⟨pb, 0, none⟩) np np, .slice la ds.length lc, .slice ha ds.length hc] 127 ∧ Only (fun q => q = b) w wr) (fun iv _ => (intOf iv + 1).toNat)
  case atStart => exact ⟨ds.length, Nat.le_refl _, by first | rfl | (congr 1; omega), hc0.out, hA0.out, hS.out, hO0.out⟩
  case round =>
    clear hA0 hS hO0 hc0
    obtain ⟨k, hk, rfl, hC, hA, hSw, hO⟩ := hrel
    by_cases hk0 : 0 < k
    · obtain ⟨j, rfl⟩ : ∃ j, k = j + 1 := ⟨k - 1, by omega⟩
      have hj : j < ds.length := by omega
      have hcI : ((j + 1 : Nat) : Int) - 1 = (j : Int) := by omega
      rw [hcI]
      have hjI : decide ((0 : Int) ≤ (j : Int)) = true := decide_eq_true (by omega)
      have hj0 : (0 : Int) ≤ (j : Int) := by omega
      have hjl : (j : Int) < (ds.length : Int) := by omega
      obtain ⟨hdk, hdb⟩ := hdm.out j hj
      have hle := hdle.out j hj
      obtain ⟨xa, xc, hx, _⟩ := hHg.out j _ hdk
      obtain ⟨bl, ol, cl, ea, fa⟩ := (hr.out.only hO (fun q hq e => hbo.out (by omega) q hq e)).cells (by omega)
      simp only [Value.slice.injEq, true_and] at ea
      obtain ⟨rfl, ea2⟩ := ea
      replace ea2 := Lib.hid ea2
      have ck := fa _ _ hx
      have hS2 := hSw.cell (o := 2) rfl
      have hl1 := hkl.out (j + 1) (by omega)
      have hat := hka.out (j + 1) j
      rw [if_pos (by omega)] at hat
      have cA := hA.cell (o := j) (nats_get _ j _ (get_of_lt 0 (by rw [hl1]; exact hj)))
      rw [hat] at cA
      have fA := hA.free j
      have hst2 := hst.out j hC hj
      have hsp2 := hsp.out j hC hj
      have hkz := hks.out j (by omega)
      have hAq := fun q => hA.only (Only.of_below (below_drewN (Below.refl _ wr) q)) (Nat.not_le.2 hA.lt)
      have hSq := fun q => hSw.only (Only.of_below (below_drewN (Below.refl _ wr) q)) (Nat.not_le.2 hSw.lt)
      have hA1 := fun q => (hAq q).set j (.int .i64 0)
      have hA2 := fun q => (hAq q).set j (.int .i64 ((dg.getD j 0 + 1 : Nat) : Int))
      simp only [show Value.int .i64 0 = .int .i64 ((0 : Nat) : Int) from rfl, ← nats_set, hkz] at hA1
      simp only [← nats_set] at hA2
      have hO1 := fun q => (hO.drewN q).setCell (a := ⟨b, j, none⟩) (fun _ => rfl) (.int .i64 0)
      have hO2 := fun q => (hO.drewN q).setCell (a := ⟨b, j, none⟩) (fun _ => rfl) (.int .i64 ((dg.getD j 0 + 1 : Nat) : Int))
      have hS1 : ∀ q, Has ((wr.drewN q).setCell ⟨b, j, none⟩ (.int .i64 0)) w.heap.size _ _ := fun q => (hSq q).set_ne (fun e => hbk e.symm) _
      generalize ds.getD j 0 = d at *
      generalize (R.line d).hist.length = hl at *
      generalize dg.getD j 0 = x at *
      by_cases hxl : x < hl
      · obtain ⟨g1, g2⟩ := hsp2 hxl
        simp only [g1] at hA2
        have hfin := fun q => hT.out _ (hO2 q) g2 (hA2 q)
        have d1 := decide_eq_true (show (x : Int) < (hl : Int) by omega)
        clear hA hSw hC hAq hSq hA1 hA2 hO1 hO2 hS1 hst2 hsp2 fa hx hdk hat hl1 hkz g1 g2 hO
        rw [show ((x + 1 : Nat) : Int) = (x : Int) + 1 by omega] at hfin
        replace hfin := Lib.hid hfin
        go_wp2_with fail
        go_quiet (fail)
        go_wp2_with fail
        exact hfin.out _
      · have hC2 := hst2 (by omega)
        have d1 := decide_eq_false (show ¬ (x : Int) < (hl : Int) by omega)
        have hrel : ∀ q, ∃ k' : Nat, k' ≤ ds.length ∧ Value.int .i64 ((j : Int) - 1) = .int .i64 ((k' : Int) - 1) ∧ Carry R ds n k' ∧ Has ((wr.drewN q).setCell ⟨b, j, none⟩ (.int .i64 0)) b (nats (rowK dg k')) 3 ∧ Has ((wr.drewN q).setCell ⟨b, j, none⟩ (.int .i64 0)) w.heap.size [.slice (some ⟨pb, 0, none⟩) np np, .slice la ds.length lc, .slice (some ⟨bl, ol, none⟩) ds.length hc] 127 ∧ Only (fun q => q = b) w ((wr.drewN q).setCell ⟨b, j, none⟩ (.int .i64 0)) :=
          fun q => ⟨j, by omega, rfl, hC2, hA1 q, hS1 q, hO1 q⟩
        replace hrel := Lib.hid hrel
        clear hA hSw hC hAq hSq hA1 hA2 hO1 hO2 hS1 hst2 hsp2 fa hx hdk hat hl1 hkz hC2 hO
        go_wp2_with fail
        go_quiet (fail)
        go_wp2_with fail
        refine ⟨hrel.out _, ?_⟩
        show ((j : Int) - 1 + 1).toNat < ((j : Int) + 1).toNat
        omega
    · obtain rfl : k = 0 := by omega
      have hcI : ((0 : Nat) : Int) - 1 = -1 := by omega
      have hfin := Lib.hid (hF.out wr hO hC)
      clear hA hSw hC hO
      go_wp2_with fail
      exact hfin.out
end Go.Proofs.Ytjmdibgncaljaaa.Dev
