/- Walks: the values of a row. -/
import Derived.Test.YtgnoikfmhncbmaaGreatDoorR8
import Derived.Test.YtgnoikfmhncbmaaGreatDoorRu
import Derived.Laws.Runes
import Derived.Test.YtgnoikfmhncbmaaGreatDoorV0
import Derived.Deep.DeepCutAuto
set_option linter.unusedVariables false
set_option linter.unusedSimpArgs false
namespace Go.Proofs.YtgnoikfmhncbmaaGreatDoor
open Go.RowKit Go.Lib Go.BigFrame
/-- A letter. -/
def ltr (x : UInt8) : UInt8 := UInt8.ofNat (97 + x.toNat % 26)
/-- The text of a row, as far as k letters. -/
def txR (bs : ByteArray) (k : Nat) : ByteArray := ⟨((bs.data.toList.take k).map ltr).toArray⟩
theorem txR_zero (bs : ByteArray) : txR bs 0 = ⟨#[]⟩ := by simp [txR]
theorem txR_list (bs : ByteArray) (k : Nat) : (txR bs k).data.toList = (bs.data.toList.take k).map ltr := by simp [txR]
theorem txR_size (bs : ByteArray) (k : Nat) : (txR bs k).size ≤ k := by
  have : (txR bs k).size = (txR bs k).data.toList.length := by simp
  rw [this, txR_list]; simp; omega
theorem enc_ltr (b : Nat) : Utf8.encode ((97 + b % 26 : Nat) : Int) = ⟨#[UInt8.ofNat (97 + b % 26)]⟩ := by
  have h : b % 26 < 26 := Nat.mod_lt _ (by decide)
  generalize b % 26 = x at h
  have : ∀ y : Fin 26, Utf8.encode ((97 + y.val : Nat) : Int) = ⟨#[UInt8.ofNat (97 + y.val)]⟩ := by decide
  exact this ⟨x, h⟩
theorem txR_succ (bs : ByteArray) (k : Nat) (h : k < bs.size) : txR bs k ++ Utf8.encode ((97 + btS bs k % 26 : Nat) : Int) = txR bs (k + 1) := by
  have hk : k < bs.data.toList.length := by simpa using h
  apply ByteArray.ext
  apply Array.toList_inj.1
  rw [txR_list, List.take_succ_eq_append_getElem hk, List.map_append, ← txR_list]
  rw [enc_ltr]
  have e : ltr bs.data.toList[k] = UInt8.ofNat (97 + btS bs k % 26) := by
    unfold ltr btS
    rw [List.getD, List.getElem?_eq_getElem hk]; rfl
  rw [List.map_cons, List.map_nil, e]
  simp
theorem wrap_i32 {n : Int} (h : -2147483648 ≤ n ∧ n ≤ 2147483647) : IntKind.i64.wrap n = n := by
  unfold IntKind.wrap
  simp [IntKind.bits, IntKind.signed]
  omega
def vInt (n : Int) : RV := ⟨1, false, n, ByteArray.empty, false⟩
/-- The values of a row ahead of the nulls. -/
def bas (a d : Int) (bs : ByteArray) (c : Bool) : Nat → RV
  | 0 => vInt a
  | 1 => ⟨2, false, 0, txR bs (min bs.size 10), false⟩
  | 2 => ⟨3, false, 0, ByteArray.empty, c⟩
  | _ => vInt d
def nulB (nu i : Nat) : Bool := decide (nu / 2 ^ i % 2 = 1)
/-- The values of a row. -/
def rowV (a d : Int) (bs : ByteArray) (c : Bool) (nu i : Nat) : RV := if i < 3 ∧ nulB nu i = true then ⟨(bas a d bs c i).ty, true, 0, ByteArray.empty, false⟩ else bas a d bs c i
def rowK (a d : Int) (bs : ByteArray) (c : Bool) (nu j : Nat) : List RV := (List.range 4).map fun p => if p < j then rowV a d bs c nu p else bas a d bs c p
def rowL (a d : Int) (bs : ByteArray) (c : Bool) (nu : Nat) : List RV := (List.range 4).map (rowV a d bs c nu)
def ValsP (L : List RV) (w : World) (e : Ending) (w' : World) : Prop := ∃ b, e = .returned (.slice (some ⟨b, 0, none⟩) 4 4) ∧ Has w' b (vCells L) 28 ∧ w.heap.size ≤ b ∧ Below w.heap.size w w'
set_option maxHeartbeats 4000000 in
set_option maxRecDepth 100000 in
theorem integer_same (n : Int) (w : World) : Calls Tryz.prog 23 #[.int .i64 n] w (fun e w' => e = .returned (.agg #[.int .u8 1, .bool false, .int .i64 n, .string ⟨#[]⟩, .bool false]) ∧ w.alloc (.cells #[.int .u8 1, .bool false, .int .i64 n, .string ⟨#[]⟩, .bool false] 28) = w') := by
  go_enter Tryz.func23, Tryz.ntmps23
  go_wp2_with fail
  refine bodyPost_ret (v := .agg #[.int .u8 1, .bool false, .int .i64 n, .string ⟨#[]⟩, .bool false]) (by simp [results, Tryz.results23, go_sem]) rfl ?_
  exact ⟨rfl, rfl⟩
theorem rowK_three (a d : Int) (bs : ByteArray) (c : Bool) (nu : Nat) : rowK a d bs c nu 3 = rowL a d bs c nu := by
  unfold rowK rowL
  apply List.map_congr_left
  intro p hp
  split
  · rfl
  · rename_i h
    have : p < 4 := List.mem_range.1 hp
    have e : p = 3 := by omega
    subst e
    unfold rowV
    rw [if_neg (by omega)]
theorem and_bit (nb k : Nat) (h : nb < 256) : (bits .and .u8 ((nb : Int) / 2 ^ k) 1 == 1) = decide (nb / 2 ^ k % 2 = 1) := by
  have e : ((nb : Int) / 2 ^ k) = ((nb / 2 ^ k : Nat) : Int) := by simp
  rw [e]
  have hy : nb / 2 ^ k < 256 := Nat.lt_of_le_of_lt (Nat.div_le_self _ _) h
  generalize nb / 2 ^ k = y at *
  have h1 : (BitVec.ofInt 8 (y : Int)).toNat = y := by
    rw [BitVec.ofInt_natCast, BitVec.toNat_ofNat]; exact Nat.mod_eq_of_lt (by omega)
  have h2 : (BitVec.ofInt 8 1).toNat = 1 := rfl
  have h3 : bits .and .u8 (y : Int) 1 = ((y % 2 : Nat) : Int) := by
    show IntKind.u8.wrap ((BitVec.ofInt 8 (y : Int) &&& BitVec.ofInt 8 1).toNat : Int) = _
    rw [BitVec.toNat_and, h1, h2, Nat.and_one_is_mod, IntKind.wrap_u8']
    omega
  rw [h3, Bool.eq_iff_iff, beq_iff_eq, decide_eq_true_eq]
  omega
theorem rowK_same (a d : Int) (bs : ByteArray) (c : Bool) (nu j : Nat) (h : nulB nu j = false) : rowK a d bs c nu (j + 1) = rowK a d bs c nu j := by
  unfold rowK
  apply List.map_congr_left
  intro p _
  by_cases h1 : p < j
  · rw [if_pos h1, if_pos (by omega)]
  · rw [if_neg h1]
    by_cases h2 : p = j
    · subst h2
      rw [if_pos (by omega)]
      unfold rowV
      rw [if_neg (by rw [h]; simp)]
    · rw [if_neg (by omega)]
theorem rowK_ty (a d : Int) (bs : ByteArray) (c : Bool) (nu j : Nat) (hj : j < 3) : (vCells (rowK a d bs c nu j))[5 * j]? = some (.int .u8 ((bas a d bs c j).ty : Int)) := by
  obtain rfl | rfl | rfl : j = 0 ∨ j = 1 ∨ j = 2 := by omega
  all_goals rfl
theorem rowK_cell (a d : Int) (bs : ByteArray) (c : Bool) (nu j i : Nat) (hj : j < 3) (hi : i < 5) : ∃ v, (vCells (rowK a d bs c nu j))[5 * j + i]? = some v := by
  have h : (vCells (rowK a d bs c nu j)).length = 20 := by
    rw [vc_len]; simp [rowK]
  exact ⟨_, List.getElem?_eq_getElem (by omega)⟩
theorem rowK_set (a d : Int) (bs : ByteArray) (c : Bool) (nu j : Nat) (hj : j < 3) (h : nulB nu j = true) : (((((vCells (rowK a d bs c nu j)).set (5 * j) (.int .u8 ((bas a d bs c j).ty : Int))).set (5 * j + 1) (.bool true)).set (5 * j + 2) (.int .i64 0)).set (5 * j + 3) (.string ⟨#[]⟩)).set (5 * j + 4) (.bool false) = vCells (rowK a d bs c nu (j + 1)) := by
  have e : rowV a d bs c nu j = ⟨(bas a d bs c j).ty, true, 0, ByteArray.empty, false⟩ := by
    unfold rowV; rw [if_pos ⟨hj, h⟩]
  obtain rfl | rfl | rfl : j = 0 ∨ j = 1 ∨ j = 2 := by omega
  · show _ = vCells [rowV a d bs c nu 0, bas a d bs c 1, bas a d bs c 2, bas a d bs c 3]
    rw [e]; rfl
  · show _ = vCells [rowV a d bs c nu 0, rowV a d bs c nu 1, bas a d bs c 2, bas a d bs c 3]
    rw [e]; rfl
  · show _ = vCells [rowV a d bs c nu 0, rowV a d bs c nu 1, rowV a d bs c nu 2, bas a d bs c 3]
    rw [e]; rfl
/-- The classes of the region that makes the row. -/
def RvC (w0 : World) (a d : Int) (cs : List Value) : List Value → World → Prop
  | [], w => Below w0.heap.size w0 w
  | [x], w => x = .agg #[.int .u8 1, .bool false, .int .i64 a, .string ⟨#[]⟩, .bool false] ∧ Below w0.heap.size w0 w
  | [x, y], w => x = .agg #[.int .u8 1, .bool false, .int .i64 a, .string ⟨#[]⟩, .bool false] ∧ y = .agg #[.int .u8 1, .bool false, .int .i64 d, .string ⟨#[]⟩, .bool false] ∧ Below w0.heap.size w0 w
  | [x, y, z], w => x = .agg #[.int .u8 1, .bool false, .int .i64 a, .string ⟨#[]⟩, .bool false] ∧ y = .agg #[.int .u8 1, .bool false, .int .i64 d, .string ⟨#[]⟩, .bool false] ∧ ∃ b, z = .slice (some ⟨b, 0, none⟩) 4 4 ∧ Has w b cs 28 ∧ w0.heap.size ≤ b ∧ Below w0.heap.size w0 w
  | _, _ => False
theorem RvC.below {w0 : World} {a d : Int} {cs : List Value} : ∀ {vs : List Value} {w : World}, RvC w0 a d cs vs w → Below w0.heap.size w0 w
  | [], _, h => h
  | [_], _, h => h.2
  | [_, _], _, h => h.2.2
  | [_, _, _], _, h => by obtain ⟨_, _, _, _, _, _, h⟩ := h; exact h
  | _ :: _ :: _ :: _ :: _, _, h => h.elim
theorem RvC.ex {w0 : World} {a d : Int} {cs : List Value} : ∀ (vs : List Value) (w : World), vs.length < 3 → RvC w0 a d cs vs w → ∃ v w', RvC w0 a d cs (vs ++ [v]) w'
  | [], w, _, h => ⟨_, w, rfl, h⟩
  | [_], w, _, h => ⟨_, w, h.1, rfl, h.2⟩
  | [_, _], w, _, h => ⟨_, w.alloc (.cells cs.toArray 28), h.1, h.2.1, w.heap.size, rfl, Has.new w cs _, h.2.2.size, h.2.2.alloc h.2.2.size _⟩
  | [_, _, _], _, hl, _ => by simp at hl
  | _ :: _ :: _ :: _ :: _, _, hl, _ => by simp at hl; omega
set_option maxHeartbeats 8000000 in
set_option maxRecDepth 100000 in
theorem rowvalues_any (id : Nat) (a d : Int) (bs : ByteArray) (c : Bool) (nu : Nat) (ha : -2147483648 ≤ a ∧ a ≤ 2147483647) (hd : -2147483648 ≤ d ∧ d ≤ 2147483647) (hs : bs.size ≤ 9223372036854775807) (hn : nu < 256) (w : World) :
    Calls Tryz.prog 19 #[.agg #[.int .u32 (id : Int), .int .i32 a, .int .i32 d, .string bs, .bool c, .int .u8 (nu : Int)]] w (ValsP (rowL a d bs c nu) w) := by
  generalize hpost : ValsP (rowL a d bs c nu) w = post
  replace hpost := Lib.hid hpost
  obtain ⟨m, hm⟩ : ∃ m, min bs.size 10 = m := ⟨_, rfl⟩
  have hm1 : (if (10 : Int) < (bs.size : Int) then (10 : Int) else (bs.size : Int)) = (m : Int) := by rw [← hm]; split <;> omega
  have hm2 : (if 10 < bs.size then (10 : Int) else (bs.size : Int)) = (m : Int) := by rw [← hm]; split <;> omega
  have hm3 : min (bs.size : Int) 10 = (m : Int) := by rw [← hm]; omega
  have hms : m ≤ bs.size := by omega
  have hm10 : m ≤ 10 := by omega
  have hs1 : (bs.size : Int) ≤ 9223372036854775807 := by omega
  have hmI : (m : Int) ≤ 10 := by omega
  replace hm := Lib.hid hm
  replace hms := Lib.hid hms
  replace hm10 := Lib.hid hm10
  replace hs := Lib.hid hs
  replace ha := Lib.hid ha
  replace hd := Lib.hid hd
  replace hn := Lib.hid hn
  obtain ⟨W1, hW1⟩ : ∃ W1, W1 = w.alloc (.cells #[.int .u32 (id : Int), .int .i32 a, .int .i32 d, .string bs, .bool c, .int .u8 (nu : Int)] 53) := ⟨_, rfl⟩
  have HR : Has W1 w.heap.size [.int .u32 (id : Int), .int .i32 a, .int .i32 d, .string bs, .bool c, .int .u8 (nu : Int)] 53 := by rw [hW1]; exact Has.new w _ _
  have hb1 : Below w.heap.size w W1 := by rw [hW1]; exact (Below.refl _ _).alloc (Nat.le_refl _) _
  replace hW1 := Lib.hid hW1.symm
  have c3 := HR.cell (o := 3) rfl
  replace HR := Lib.hid HR
  replace hb1 := Lib.hid hb1
  go_enter Tryz.func19, Tryz.ntmps19
  go_upto_region 1 with fail
  rw [hW1.out]
  go_wp2_with fail
  go_loopw [3, 11] (fun s i wr => ∃ k : Nat, k ≤ m ∧ i = .int .i64 (k : Int) ∧ s = .string (txR bs k) ∧ W1 = wr) (fun _ i _ => m - (RowKit.intOf i).toNat)
  case atStart => exact ⟨0, Nat.zero_le _, rfl, by rw [txR_zero], rfl⟩
  case round =>
    obtain ⟨k, hk, rfl, rfl, hwr⟩ := hrel
    subst hwr
    by_cases hlt : k < m
    · have k1 : (k : Int) < (m : Int) := by omega
      have kd : decide ((k : Int) < (m : Int)) = true := decide_eq_true k1
      have hm10' := hm10.out
      have kw := Lib.hid (show wrap64 ((k : Int) + 1) = ((k + 1 : Nat) : Int) from by unfold wrap64; omega)
      have hkb : k < bs.size := Nat.lt_of_lt_of_le hlt hms.out
      have hkb1 : (k : Int) < (bs.size : Int) := by omega
      obtain ⟨bb, hbb⟩ : ∃ bb, btS bs k = bb := ⟨_, rfl⟩
      have hbv : ∀ h : k < bs.size, (bs[k]'h).toNat = bb := fun h => (btS_get bs k h).trans hbb
      have hb256 : bb < 256 := by rw [← hbb]; exact btS_lt bs k
      have hsz := txR_size bs k
      have hsu := txR_succ bs k hkb
      rw [hbb] at hsu
      obtain ⟨r, hr⟩ : ∃ r : Nat, bb % 26 = r := ⟨_, rfl⟩
      have hrI : (bb : Int) % 26 = (r : Int) := by omega
      have hr26 : r < 26 := by omega
      obtain ⟨q, hq⟩ : ∃ q : Nat, 97 + bb % 26 = q := ⟨_, rfl⟩
      have hq2 : q ≤ 122 := by omega
      have hqr : (97 : Int) + (r : Int) = (q : Int) := by omega
      have es : (Utf8.encode ((97 + bb % 26 : Nat) : Int)).size = 1 := by rw [enc_ltr]; rfl
      rw [hq] at hsu es
      obtain ⟨Eq, hEq⟩ : ∃ E, Utf8.encode ((q : Nat) : Int) = E := ⟨_, rfl⟩
      rw [hEq] at hsu es
      have hsz2 : ¬ 9223372036854775807 < (txR bs k).size + Eq.size := by omega
      clear es hsz
      replace hsu := Lib.hid hsu
      replace hr26 := Lib.hid hr26
      replace hr := Lib.hid hr
      replace hq := Lib.hid hq
      replace hbb := Lib.hid hbb
      clear hm10' hmI hlt hkb
      replace hq2 := Lib.hid hq2
      replace hb256 := Lib.hid hb256
      go_upto_region 5 with fail
      clear hm1 hm2 hm3
      go_wp2_with fail
      rw [hsu.out]
      go_roundw
      case rel => exact ⟨k + 1, by omega, by first | rfl | go_num, by simp, by simp⟩
      case measure => simp [RowKit.intOf]; omega
    · have hkm : k = m := by omega
      subst hkm
      have k1 : ¬ (k : Int) < (k : Int) := by omega
      have kd : decide ((k : Int) < (k : Int)) = false := decide_eq_false k1
      obtain ⟨T, hT⟩ : ∃ T, txR bs k = T := ⟨_, rfl⟩
      rw [hT]
      replace hT := Lib.hid hT
      clear hm1 hm2 hm3 hmI hk hlt
      go_upto_region 7 with fail
      clear k1 kd c3
      have kR := fun wx (hb : Below W1.heap.size W1 wx) => HR.out.only (Only.of_below hb) (Nat.not_le.2 HR.out.lt)
      have hwa := wrap_i32 ha.out
      have hwd := wrap_i32 hd.out
      obtain ⟨cs, hcs⟩ : ∃ cs : List Value, cs = [.int .u8 1, .bool false, .int .i64 a, .string ⟨#[]⟩, .bool false, .int .u8 2, .bool false, .int .i64 0, .string T, .bool false, .int .u8 3, .bool false, .int .i64 0, .string ⟨#[]⟩, .bool c, .int .u8 1, .bool false, .int .i64 d, .string ⟨#[]⟩, .bool false] := ⟨_, rfl⟩
      replace kR := Lib.hid kR
      replace hcs := Lib.hid hcs
      refine wp_region_part [3, 12, 13] [[], [0], [1]] [] (ChC (RvC W1 a d cs) 3) (by kernel_rfl) (by kernel_rfl) (by kernel_rfl) (ChC.start (show Below W1.heap.size W1 W1.drew from below_drew (Below.refl _ _))) (ChC.ex RvC.ex) (fun Hf hx => ?_)
      obtain ⟨w', hx⟩ := hx
      obtain ⟨v0e, v1e, b, v2e, _⟩ := hx.done
      clear hx
      have kA : ∀ {nds : List Nat} {wx : World}, clsP (ChC (RvC W1 a d cs) 3) Hf nds wx → Below W1.heap.size W1 wx := fun h => by
        obtain ⟨vs, _, h2, _⟩ := ChC.at h
        exact h2.below
      refine part_chunk [] 3 0 _ _ (by kernel_rfl) (by kernel_rfl) (by decide) ?_
      simp only [List.take_succ_cons, List.take_zero, List.drop_succ_cons, List.drop_zero]
      iterate 1 (go_big_quiet_want; go_big_quiet_op; first | go_big_quiet_on | (refine ⟨_, fun _ _ => rfl, ?_⟩; go_big_quiet_on))
      go_big_quiet_want; go_big_quiet_op
      refine ⟨.int .i32 a, fun wx hx => by simp [go_sem, (kR.out wx (kA hx)).cell (o := 1) rfl], ?_⟩
      go_big_quiet_on
      go_big_quiet_want; go_big_quiet_op
      refine ⟨.int .i64 a, fun wx hx => rfl, ?_⟩
      go_big_quiet_on
      refine wpQuiet_nil ?_
      refine part_step (s := 0) v0e (by go_simp; exact rfl) (by kernel_rfl) (by kernel_rfl) (fun H wx hs hn hp hc => ?_) ?_
      · obtain ⟨vs, hl, hPh, _, hk⟩ := ChC.step hc hn (.inl rfl) (by decide) hs
        refine callUpon_mk (f := 23) (args := #[.int .i64 a]) (by simp [go_sem]) ?_
        exact (integer_same a wx).mono fun e w'' ⟨he, hw⟩ => ⟨_, he, hk _ _ (by
          match vs, hl, hPh with
          | [], _, hPh => exact ⟨rfl, by rw [← hw]; exact hPh.alloc hPh.size _⟩)⟩
      refine part_chunk [] 1 _ _ _ (by kernel_rfl) (by kernel_rfl) (by decide) ?_
      simp only [List.take_succ_cons, List.take_zero, List.drop_succ_cons, List.drop_zero]
      iterate 1 (go_big_quiet_want; go_big_quiet_op; first | go_big_quiet_on | (refine ⟨_, fun _ _ => rfl, ?_⟩; go_big_quiet_on))
      refine wpQuiet_nil ?_
      refine part_pure (v := .agg #[.int .u8 2, .bool false, .int .i64 0, .string T, .bool false]) (by go_simp; exact rfl) (by kernel_rfl) (by kernel_rfl) (fun wx => by simp [go_sem]) ?_
      refine part_chunk [] 2 _ _ _ (by kernel_rfl) (by kernel_rfl) (by decide) ?_
      simp only [List.take_succ_cons, List.take_zero, List.drop_succ_cons, List.drop_zero]
      iterate 1 (go_big_quiet_want; go_big_quiet_op; first | go_big_quiet_on | (refine ⟨_, fun _ _ => rfl, ?_⟩; go_big_quiet_on))
      go_big_quiet_want; go_big_quiet_op
      refine ⟨.bool c, fun wx hx => by simp [go_sem, (kR.out wx (kA hx)).cell (o := 4) rfl], ?_⟩
      go_big_quiet_on
      refine wpQuiet_nil ?_
      refine part_pure (v := .agg #[.int .u8 3, .bool false, .int .i64 0, .string ⟨#[]⟩, .bool c]) (by go_simp; exact rfl) (by kernel_rfl) (by kernel_rfl) (fun wx => by simp [go_sem]) ?_
      refine part_chunk [] 3 _ _ _ (by kernel_rfl) (by kernel_rfl) (by decide) ?_
      simp only [List.take_succ_cons, List.take_zero, List.drop_succ_cons, List.drop_zero]
      iterate 1 (go_big_quiet_want; go_big_quiet_op; first | go_big_quiet_on | (refine ⟨_, fun _ _ => rfl, ?_⟩; go_big_quiet_on))
      go_big_quiet_want; go_big_quiet_op
      refine ⟨.int .i32 d, fun wx hx => by simp [go_sem, (kR.out wx (kA hx)).cell (o := 2) rfl], ?_⟩
      go_big_quiet_on
      go_big_quiet_want; go_big_quiet_op
      refine ⟨.int .i64 d, fun wx hx => rfl, ?_⟩
      go_big_quiet_on
      refine wpQuiet_nil ?_
      refine part_step (s := 1) v1e (by go_simp; exact rfl) (by kernel_rfl) (by kernel_rfl) (fun H wx hs hn hp hc => ?_) ?_
      · obtain ⟨vs, hl, hPh, _, hk⟩ := ChC.step hc hn (.inr (hp 0 (by simp))) (by decide) hs
        refine callUpon_mk (f := 23) (args := #[.int .i64 d]) (by simp [go_sem]) ?_
        exact (integer_same d wx).mono fun e w'' ⟨he, hw⟩ => ⟨_, he, hk _ _ (by
          match vs, hl, hPh with
          | [x0], _, hPh => exact ⟨hPh.1, rfl, by rw [← hw]; exact hPh.2.alloc hPh.2.size _⟩)⟩
      refine part_step (s := 2) v2e (by go_simp; exact rfl) (by kernel_rfl) (by kernel_rfl) (fun H wx hs hn hp hc => ?_) ?_
      · obtain ⟨vs, hl, hPh, _, hk⟩ := ChC.step hc hn (.inr (hp 1 (by simp))) (by decide) hs
        match vs, hl, hPh with
        | [x0, x1], _, hPh =>
          refine callUpon_value (v := .slice (some ⟨wx.heap.size, 0, none⟩) 4 4) (w' := wx.alloc (.cells cs.toArray 28)) (by rw [hcs.out]; simp [go_sem]) (hk _ _ ⟨hPh.1, hPh.2.1, wx.heap.size, rfl, Has.new wx cs _, hPh.2.2.size, hPh.2.2.alloc hPh.2.2.size _⟩)
      refine part_chunk [] 1 _ _ _ (by kernel_rfl) (by kernel_rfl) (by decide) ?_
      simp only [List.take_succ_cons, List.take_zero, List.drop_succ_cons, List.drop_zero]
      iterate 1 (go_big_quiet_want; go_big_quiet_op; first | go_big_quiet_on | (refine ⟨_, fun _ _ => rfl, ?_⟩; go_big_quiet_on))
      refine wpQuiet_nil ?_
      intro wy hy
      obtain ⟨_, _, by', v2y, HS, hby, hbY⟩ := hy.done
      rw [v2e] at v2y
      have eb : b = by' := by simpa using v2y
      subst eb
      clear hy v2y v0e v1e v2e kA
      replace HS := Lib.hid HS
      replace hbY := Lib.hid hbY
      have hcz : cs = vCells (rowK a d bs c nu 0) := by
        rw [hcs.out, ← hT.out]
        have e : k = min bs.size 10 := hm.out.symm
        rw [e]; rfl
      replace hcz := Lib.hid hcz
      have hfin : ∀ wz, Has wz b (vCells (rowK a d bs c nu 3)) 28 → Below W1.heap.size W1 wz → post (.returned (.slice (some ⟨b, 0, none⟩) 4 4)) wz := fun wz h1 h2 => by
        rw [← hpost.out]
        rw [rowK_three] at h1
        exact ⟨b, rfl, h1, Nat.le_trans hb1.out.size hby, hb1.out.trans (h2.mono hb1.out.size)⟩
      replace hfin := Lib.hid hfin
      clear hwa hwd hcs hpost
      go_wp2_with fail
      go_loopw [39] (fun i wr => ∃ j : Nat, j ≤ 3 ∧ i = .int .i64 (j : Int) ∧ Has wr b (vCells (rowK a d bs c nu j)) 28 ∧ Below W1.heap.size W1 wr) (fun i _ => 3 - (RowKit.intOf i).toNat)
      case atStart => exact ⟨0, by omega, rfl, by rw [← hcz.out]; exact HS.out, hbY.out⟩
      case round =>
        obtain ⟨j, hj, rfl, HK, hbr⟩ := hrel
        obtain rfl | rfl | rfl | rfl : j = 0 ∨ j = 1 ∨ j = 2 ∨ j = 3 := by omega
        · have d5 := (kR.out wr hbr).cell (o := 5) rfl
          have hab := and_bit nu 0 hn.out
          simp only [Int.pow_zero, Int.ediv_one, Nat.pow_zero, Nat.div_one, Int.reducePow, Nat.reducePow, Int.pow_one, Nat.pow_one] at hab
          obtain ⟨z, hz⟩ : ∃ z, nulB nu 0 = z := ⟨_, rfl⟩
          have hz' := hz
          unfold nulB at hz'
          simp only [Nat.pow_zero, Nat.div_one, Nat.reducePow, Nat.pow_one] at hz'
          rw [hz'] at hab
          clear hz'
          go_upto_region 11 with fail
          cases z with
          | false =>
            rw [← rowK_same a d bs c nu 0 hz] at HK
            replace hz := Lib.hid hz
            replace HK := Lib.hid HK
            replace hbr := Lib.hid hbr
            go_wp2_with fail
            go_roundw
            case rel => exact ⟨1, by omega, by first | rfl | go_num, HK.out, hbr.out⟩
            case measure => simp [RowKit.intOf]
          | true =>
            have hty := HK.cell (rowK_ty a d bs c nu 0 (by omega))
            obtain ⟨y1, hy1⟩ := rowK_cell a d bs c nu 0 1 (by omega) (by omega)
            have g1 := HK.cell hy1
            obtain ⟨y2, hy2⟩ := rowK_cell a d bs c nu 0 2 (by omega) (by omega)
            have g2 := HK.cell hy2
            obtain ⟨y3, hy3⟩ := rowK_cell a d bs c nu 0 3 (by omega) (by omega)
            have g3 := HK.cell hy3
            obtain ⟨y4, hy4⟩ := rowK_cell a d bs c nu 0 4 (by omega) (by omega)
            have g4 := HK.cell hy4
            have HK2 := ((((HK.set (5 * 0) (.int .u8 ((bas a d bs c 0).ty : Int))).set (5 * 0 + 1) (.bool true)).set (5 * 0 + 2) (.int .i64 0)).set (5 * 0 + 3) (.string ⟨#[]⟩)).set (5 * 0 + 4) (.bool false)
            rw [rowK_set a d bs c nu 0 (by omega) hz] at HK2
            have e0 : (bas a d bs c 0).ty = 1 := rfl
            rw [e0] at hty HK2
            simp only [Nat.reduceMul, Nat.reduceAdd] at hty HK2 g1 g2 g3 g4
            clear hy1 hy2 hy3 hy4
            have f0 := HK.free 0
            have f1 := HK.free 1
            have f2 := HK.free 2
            have f3 := HK.free 3
            have f4 := HK.free 4
            have hB2 : Below W1.heap.size W1 (((((wr.setCell ⟨b, 0, none⟩ (.int .u8 ((1 : Nat) : Int))).setCell ⟨b, 1, none⟩ (.bool true)).setCell ⟨b, 2, none⟩ (.int .i64 0)).setCell ⟨b, 3, none⟩ (.string ⟨#[]⟩)).setCell ⟨b, 4, none⟩ (.bool false)) := ((((hbr.setCell hby _).setCell hby _).setCell hby _).setCell hby _).setCell hby _
            replace hz := Lib.hid hz
            replace HK := Lib.hid HK
            replace HK2 := Lib.hid HK2
            replace hB2 := Lib.hid hB2
            replace hbr := Lib.hid hbr
            go_wp2_with fail
            go_roundw
            case rel => exact ⟨1, by omega, by first | rfl | go_num, HK2.out, hB2.out⟩
            case measure => simp [RowKit.intOf]
        · have d5 := (kR.out wr hbr).cell (o := 5) rfl
          have hab := and_bit nu 1 hn.out
          simp only [Int.pow_zero, Int.ediv_one, Nat.pow_zero, Nat.div_one, Int.reducePow, Nat.reducePow, Int.pow_one, Nat.pow_one] at hab
          obtain ⟨z, hz⟩ : ∃ z, nulB nu 1 = z := ⟨_, rfl⟩
          have hz' := hz
          unfold nulB at hz'
          simp only [Nat.pow_zero, Nat.div_one, Nat.reducePow, Nat.pow_one] at hz'
          rw [hz'] at hab
          clear hz'
          go_upto_region 11 with fail
          cases z with
          | false =>
            rw [← rowK_same a d bs c nu 1 hz] at HK
            replace hz := Lib.hid hz
            replace HK := Lib.hid HK
            replace hbr := Lib.hid hbr
            go_wp2_with fail
            go_roundw
            case rel => exact ⟨2, by omega, by first | rfl | go_num, HK.out, hbr.out⟩
            case measure => simp [RowKit.intOf]
          | true =>
            have hty := HK.cell (rowK_ty a d bs c nu 1 (by omega))
            obtain ⟨y1, hy1⟩ := rowK_cell a d bs c nu 1 1 (by omega) (by omega)
            have g1 := HK.cell hy1
            obtain ⟨y2, hy2⟩ := rowK_cell a d bs c nu 1 2 (by omega) (by omega)
            have g2 := HK.cell hy2
            obtain ⟨y3, hy3⟩ := rowK_cell a d bs c nu 1 3 (by omega) (by omega)
            have g3 := HK.cell hy3
            obtain ⟨y4, hy4⟩ := rowK_cell a d bs c nu 1 4 (by omega) (by omega)
            have g4 := HK.cell hy4
            have HK2 := ((((HK.set (5 * 1) (.int .u8 ((bas a d bs c 1).ty : Int))).set (5 * 1 + 1) (.bool true)).set (5 * 1 + 2) (.int .i64 0)).set (5 * 1 + 3) (.string ⟨#[]⟩)).set (5 * 1 + 4) (.bool false)
            rw [rowK_set a d bs c nu 1 (by omega) hz] at HK2
            have e0 : (bas a d bs c 1).ty = 2 := rfl
            rw [e0] at hty HK2
            simp only [Nat.reduceMul, Nat.reduceAdd] at hty HK2 g1 g2 g3 g4
            clear hy1 hy2 hy3 hy4
            have f0 := HK.free 5
            have f1 := HK.free 6
            have f2 := HK.free 7
            have f3 := HK.free 8
            have f4 := HK.free 9
            have hB2 : Below W1.heap.size W1 (((((wr.setCell ⟨b, 5, none⟩ (.int .u8 ((2 : Nat) : Int))).setCell ⟨b, 6, none⟩ (.bool true)).setCell ⟨b, 7, none⟩ (.int .i64 0)).setCell ⟨b, 8, none⟩ (.string ⟨#[]⟩)).setCell ⟨b, 9, none⟩ (.bool false)) := ((((hbr.setCell hby _).setCell hby _).setCell hby _).setCell hby _).setCell hby _
            replace hz := Lib.hid hz
            replace HK := Lib.hid HK
            replace HK2 := Lib.hid HK2
            replace hB2 := Lib.hid hB2
            replace hbr := Lib.hid hbr
            go_wp2_with fail
            go_roundw
            case rel => exact ⟨2, by omega, by first | rfl | go_num, HK2.out, hB2.out⟩
            case measure => simp [RowKit.intOf]
        · have d5 := (kR.out wr hbr).cell (o := 5) rfl
          have hab := and_bit nu 2 hn.out
          simp only [Int.pow_zero, Int.ediv_one, Nat.pow_zero, Nat.div_one, Int.reducePow, Nat.reducePow, Int.pow_one, Nat.pow_one] at hab
          obtain ⟨z, hz⟩ : ∃ z, nulB nu 2 = z := ⟨_, rfl⟩
          have hz' := hz
          unfold nulB at hz'
          simp only [Nat.pow_zero, Nat.div_one, Nat.reducePow, Nat.pow_one] at hz'
          rw [hz'] at hab
          clear hz'
          go_upto_region 11 with fail
          cases z with
          | false =>
            rw [← rowK_same a d bs c nu 2 hz] at HK
            replace hz := Lib.hid hz
            replace HK := Lib.hid HK
            replace hbr := Lib.hid hbr
            go_wp2_with fail
            go_roundw
            case rel => exact ⟨3, by omega, by first | rfl | go_num, HK.out, hbr.out⟩
            case measure => simp [RowKit.intOf]
          | true =>
            have hty := HK.cell (rowK_ty a d bs c nu 2 (by omega))
            obtain ⟨y1, hy1⟩ := rowK_cell a d bs c nu 2 1 (by omega) (by omega)
            have g1 := HK.cell hy1
            obtain ⟨y2, hy2⟩ := rowK_cell a d bs c nu 2 2 (by omega) (by omega)
            have g2 := HK.cell hy2
            obtain ⟨y3, hy3⟩ := rowK_cell a d bs c nu 2 3 (by omega) (by omega)
            have g3 := HK.cell hy3
            obtain ⟨y4, hy4⟩ := rowK_cell a d bs c nu 2 4 (by omega) (by omega)
            have g4 := HK.cell hy4
            have HK2 := ((((HK.set (5 * 2) (.int .u8 ((bas a d bs c 2).ty : Int))).set (5 * 2 + 1) (.bool true)).set (5 * 2 + 2) (.int .i64 0)).set (5 * 2 + 3) (.string ⟨#[]⟩)).set (5 * 2 + 4) (.bool false)
            rw [rowK_set a d bs c nu 2 (by omega) hz] at HK2
            have e0 : (bas a d bs c 2).ty = 3 := rfl
            rw [e0] at hty HK2
            simp only [Nat.reduceMul, Nat.reduceAdd] at hty HK2 g1 g2 g3 g4
            clear hy1 hy2 hy3 hy4
            have f0 := HK.free 10
            have f1 := HK.free 11
            have f2 := HK.free 12
            have f3 := HK.free 13
            have f4 := HK.free 14
            have hB2 : Below W1.heap.size W1 (((((wr.setCell ⟨b, 10, none⟩ (.int .u8 ((3 : Nat) : Int))).setCell ⟨b, 11, none⟩ (.bool true)).setCell ⟨b, 12, none⟩ (.int .i64 0)).setCell ⟨b, 13, none⟩ (.string ⟨#[]⟩)).setCell ⟨b, 14, none⟩ (.bool false)) := ((((hbr.setCell hby _).setCell hby _).setCell hby _).setCell hby _).setCell hby _
            replace hz := Lib.hid hz
            replace HK := Lib.hid HK
            replace HK2 := Lib.hid HK2
            replace hB2 := Lib.hid hB2
            replace hbr := Lib.hid hbr
            go_wp2_with fail
            go_roundw
            case rel => exact ⟨3, by omega, by first | rfl | go_num, HK2.out, hB2.out⟩
            case measure => simp [RowKit.intOf]
        · have hfn := Lib.hid (hfin.out wr HK hbr)
          clear hfin HK hbr
          go_wp2_with fail
          exact hfn.out
end Go.Proofs.YtgnoikfmhncbmaaGreatDoor
