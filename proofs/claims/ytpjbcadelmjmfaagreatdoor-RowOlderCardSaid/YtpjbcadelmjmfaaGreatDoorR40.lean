/- The walk of parse. -/
import Derived.Test.YtpjbcadelmjmfaaGreatDoorR37
import Derived.Test.YtpjbcadelmjmfaaGreatDoorDec
namespace Go.Proofs.YtpjbcadelmjmfaaGreatDoor
open Go.RowKit Go.Lib
set_option linter.unusedVariables false

/-- string(b), of a slice of bytes that is not empty. -/
theorem conv_rds {w : World} {a : Option Addr} {c : Nat} {l : List Nat} (hr : Rd w (.slice a l.length c) l.length (bcells l)) (hb : ∀ x ∈ l, x < 256) (hn : 0 < l.length) : (convert 34 9 (.slice a l.length c)).run Tryz.prog w = .ok (.string (strOfNats l)) w := by
  obtain ⟨bl, ol, cl, ea, fa⟩ := hr.cells hn
  simp only [Value.slice.injEq, true_and] at ea
  obtain ⟨rfl, rfl⟩ := ea
  have := run_convert_bytes_back (P := Tryz.prog) w 34 9 5 ⟨bl, ol, none⟩ c (bytesOf l) Tryz.underlying34 Tryz.underlying5 Tryz.underlying9 (fun j hj => by
    unfold bytesOf at hj
    rw [List.length_map] at hj
    have hx := hb _ (List.mem_of_getElem? (get_lt 0 hj))
    have h1 := fa _ _ (bcells_get l j hj)
    have e : (⟨bl, ol, none⟩ : Addr).add j = ⟨bl, ol + j, none⟩ := by unfold Addr.add; split <;> simp_all
    rw [e, h1]
    congr 2
    unfold bytesOf
    rw [List.getElem_map]
    have e2 : l[j] = l.getD j 0 := by rw [List.getD, List.getElem?_eq_getElem hj]; rfl
    rw [e2, UInt8.toNat_ofNat']
    omega)
  have e3 : (bytesOf l).length = l.length := by unfold bytesOf; simp
  rw [e3] at this
  exact this
def ParsePost (w : World) (b : Nat) (v : Value) (x : RV × List Nat) (e : Ending) (w' : World) : Prop :=
  ∃ a n c, e = .returned (.slice a n c) ∧ n = x.2.length ∧ n ≤ c ∧ (∀ k, Value.ownBlock (.slice a n c) = some k → v.ownBlock = some k) ∧ Rd w' (.slice a n c) n (bcells x.2) ∧ Only (fun k => k = b) w w' ∧ Has w' b x.1.cells 50
theorem or_u32 (x y k K : Nat) (hK : 2 ^ k = K) (hx : x < K) (hs : x + y * K < 4294967296) : bits .or .u32 (x : Int) ((y * K : Nat) : Int) = ((x + y * K : Nat) : Int) := by
  have h1 : (BitVec.ofInt 32 (x : Int)).toNat = x := by
    rw [BitVec.ofInt_natCast, BitVec.toNat_ofNat]; exact Nat.mod_eq_of_lt (by omega)
  have h2 : (BitVec.ofInt 32 ((y * K : Nat) : Int)).toNat = y * K := by
    rw [BitVec.ofInt_natCast, BitVec.toNat_ofNat]; exact Nat.mod_eq_of_lt (by omega)
  have h3 : x ||| y * K = x + y * K := by
    have := Nat.two_pow_add_eq_or_of_lt (i := k) (b := x) (by omega) y
    rw [hK, Nat.mul_comm K y] at this
    rw [Nat.or_comm]
    omega
  show IntKind.u32.wrap ((BitVec.ofInt 32 (x : Int) ||| BitVec.ofInt 32 ((y * K : Nat) : Int)).toNat : Int) = _
  rw [BitVec.toNat_or, h1, h2, h3, IntKind.wrap_u32']
  omega
set_option maxRecDepth 100000 in
theorem i32_bits (a b c d : Nat) (ha : a < 256) (hb : b < 256) (hc : c < 256) (hd : d < 256) :
    wrap64 (wrap32 (bits .or .u32 (bits .or .u32 (bits .or .u32 (a : Int) ((b : Int) * 256)) ((c : Int) * 65536)) ((d : Int) * 16777216))) = i32 a b c d := by
  have p8 : 2 ^ 8 = 256 := by decide
  have p16 : 2 ^ 16 = 65536 := by decide
  have p24 : 2 ^ 24 = 16777216 := by decide
  have e1 := or_u32 a b 8 256 p8 (by omega) (by omega)
  have e2 := or_u32 (a + b * 256) c 16 65536 p16 (by omega) (by omega)
  have s3 : a + b * 256 + c * 65536 < 16777216 := by omega
  have s4 : a + b * 256 + c * 65536 + d * 16777216 < 4294967296 := by omega
  have e3 := or_u32 (a + b * 256 + c * 65536) d 24 16777216 p24 s3 s4
  have f1 : ((b * 256 : Nat) : Int) = (b : Int) * 256 := by omega
  have f2 : ((c * 65536 : Nat) : Int) = (c : Int) * 65536 := by omega
  have f3 : ((d * 16777216 : Nat) : Int) = (d : Int) * 16777216 := Int.natCast_mul _ _
  rw [f1] at e1
  rw [f2] at e2
  rw [f3] at e3
  rw [e1, e2, e3]
  unfold i32 wrap64 wrap32
  split <;> omega
theorem bytes_drop {w : World} {bl ol n c : Nat} {q : List Nat} (hr : Rd w (.slice (some ⟨bl, ol, none⟩) n c) n (bcells q)) (hn : n = q.length) (k : Nat) (c' : Nat) : Rd w (.slice (some ⟨bl, ol + k, none⟩) (n - k) c') (n - k) (bcells (q.drop k)) := by
  obtain ⟨a, cap, e, h⟩ := hr
  simp only [Value.slice.injEq, true_and] at e
  obtain ⟨rfl, _⟩ := e
  refine ⟨_, _, rfl, ?_⟩
  rcases h with ⟨h0, h1⟩ | ⟨b, off, hb, h⟩
  · left
    have hq : q = [] := List.eq_nil_of_length_eq_zero (by omega)
    subst hq
    exact ⟨by omega, by simp [bcells]⟩
  · right
    simp only [Option.some.injEq, Addr.mk.injEq, and_true] at hb
    obtain ⟨rfl, rfl⟩ := hb
    refine ⟨_, _, rfl, fun j u hj => ?_⟩
    have e : (bcells (q.drop k))[j]? = (bcells q)[k + j]? := by unfold bcells; rw [List.map_drop, List.getElem?_drop]
    rw [e] at hj
    have := h _ _ hj
    rw [Nat.add_assoc]
    exact this
theorem cells8 : Tryz.prog.cellsOf 5 = 1 := by kernel_rfl
set_option maxRecDepth 100000 in
/-- p[k:], of bytes. -/
theorem cut_from (bl ol n c k : Nat) (kI : Int) (hkI : kI = (k : Int)) (q : List Nat) (hn : n = q.length) (hk : k ≤ n) (hc : n ≤ c) :
    ∃ a', (∀ wx, (Instr.slice 34 (.slice (some ⟨bl, ol, none⟩) n c) (some (.int .i64 kI)) none none).run Tryz.prog wx = .ok (.slice a' (n - k) (c - k)) wx) ∧ (∀ kk, Value.ownBlock (.slice a' (n - k) (c - k)) = some kk → kk = bl) ∧
      ∀ w', Rd w' (.slice (some ⟨bl, ol, none⟩) n c) n (bcells q) → Rd w' (.slice a' (n - k) (c - k)) (n - k) (bcells (q.drop k)) := by
  subst hkI
  have hr := fun wx => run_slice_l (P := Tryz.prog) wx 34 (some ⟨bl, ol, none⟩) n c Tryz.underlying34 .i64 (k : Int) (by omega) (by omega)
  refine ⟨if c = k then some ⟨bl, ol, none⟩ else some ⟨bl, ol + k, none⟩, fun wx => ?_, fun kk hkk => ?_, fun w' h => ?_⟩
  · rw [hr wx]
    have : (sizeOf (Tryz.prog.elem 34)).run Tryz.prog wx = .ok 1 wx := by simp [go_sem]
    rw [this]
    simp only [Result.andThen, sliced, Int.toNat_natCast]
    by_cases h : c = k
    · rw [if_pos h, if_pos h]
    · rw [if_neg h, if_neg h]
      simp [Addr.add]
  · by_cases h : c = k
    · rw [if_pos h] at hkk
      simpa [Value.ownBlock] using hkk.symm
    · rw [if_neg h] at hkk
      simpa [Value.ownBlock] using hkk.symm
  · by_cases h0 : c = k
    · rw [if_pos h0]
      have h1 : n - k = 0 := by omega
      have h2 : bcells (q.drop k) = [] := by rw [List.drop_eq_nil_of_le (by omega)]; rfl
      rw [h1, h2]
      exact ⟨_, _, rfl, .inl ⟨rfl, rfl⟩⟩
    · rw [if_neg h0]
      exact bytes_drop h hn k _
theorem byte_cell {w : World} {a : Option Addr} {c : Nat} {q : List Nat} (hr : Rd w (.slice a q.length c) q.length (bcells q)) (hn : 0 < q.length) : ∃ bl ol, a = some ⟨bl, ol, none⟩ ∧ ∀ j, j < q.length → w.cell? ⟨bl, ol + j, none⟩ = some (.int .u8 ((q.getD j 0 : Nat) : Int)) := by
  obtain ⟨bl, ol, cl, ea, fa⟩ := hr.cells hn
  simp only [Value.slice.injEq, true_and] at ea
  obtain ⟨rfl, _⟩ := ea
  exact ⟨bl, ol, rfl, fun j hj => fa j _ (bcells_get q j hj)⟩
set_option maxHeartbeats 4000000 in
set_option maxRecDepth 100000 in
theorem parse_int (b : Nat) (q : List Nat) (hq : ∀ x ∈ q, x < 256) (hql : q.length ≤ 1000000) (a : Option Addr) (c : Nat) (hqc : q.length ≤ c) (w : World) (hV : Has w b (zeroV 1 false).cells 50)
    (hr : Rd w (.slice a q.length c) q.length (bcells q)) (hb : ∀ k, Value.ownBlock (.slice a q.length c) = some k → k ≠ b) :
    Calls Tryz.prog 56 #[.pointer (some ⟨b, 0, none⟩), .slice a q.length c] w (ParsePost w b (.slice a q.length c) (laxP 1 q)) := by
  generalize hpost : ParsePost w b (.slice a q.length c) (laxP 1 q) = post
  replace hpost := Lib.hid hpost
  have v0 : w.cell? ⟨b, 0, none⟩ = some (.int .u8 1) := hV.cell (o := 0) rfl
  obtain ⟨n, hn⟩ : ∃ n, n = q.length := ⟨_, rfl⟩
  have hr' := hr
  rw [← hn] at hb hql hqc hr' ⊢
  by_cases h4 : n < 4
  · have dI : decide ((n : Int) < 4) = true := decide_eq_true (by omega)
    have hfin : post (.returned (.slice none 0 0)) w := by
      rw [← hpost.out]
      have e : laxP 1 q = (zeroV 1 false, []) := by unfold laxP; rw [if_pos rfl, if_pos (by omega)]
      rw [e]
      exact ⟨none, 0, 0, rfl, rfl, Nat.le_refl _, (fun k hk => by cases hk), Rd.nil w, Only.refl _ _, hV⟩
    replace hfin := Lib.hid hfin
    replace hn := Lib.hid hn
    go_enter Tryz.func56, Tryz.ntmps56
    go_wp2_with fail
    first | exact hfin.out | (go_ret; exact hfin.out)
  · have dI : decide ((n : Int) < 4) = false := decide_eq_false (by omega)
    obtain ⟨bl, ol, rfl, hcell⟩ := byte_cell hr (by omega)
    have c0 := hcell 0 (by omega)
    have c1 := hcell 1 (by omega)
    have c2 := hcell 2 (by omega)
    have c3 := hcell 3 (by omega)
    have hx0 := hq (q.getD 0 0) (List.mem_of_getElem? (get_lt 0 (by omega)))
    have hx1 := hq (q.getD 1 0) (List.mem_of_getElem? (get_lt 0 (by omega)))
    have hx2 := hq (q.getD 2 0) (List.mem_of_getElem? (get_lt 0 (by omega)))
    have hx3 := hq (q.getD 3 0) (List.mem_of_getElem? (get_lt 0 (by omega)))
    have he : laxP 1 q = ({ zeroV 1 false with n := i32 (q.getD 0 0) (q.getD 1 0) (q.getD 2 0) (q.getD 3 0) }, q.drop 4) := by unfold laxP; rw [if_pos rfl, if_neg (by omega), if_pos rfl]
    generalize q.getD 0 0 = x0 at *
    generalize q.getD 1 0 = x1 at *
    generalize q.getD 2 0 = x2 at *
    generalize q.getD 3 0 = x3 at *
    rw [Nat.add_zero] at c0
    have hf := hV.free 2
    have v2 : w.cell? ⟨b, 2, none⟩ = some (.int .i64 0) := hV.cell (o := 2) rfl
    have hbb : b ≠ bl := fun e => hb bl rfl e.symm
    obtain ⟨a', hsl, hob, hrd⟩ := cut_from bl ol n c 4 4 rfl q hn (by omega) hqc
    have hib := i32_bits x0 x1 x2 x3 hx0 hx1 hx2 hx3
    have hfin : ∀ X, X = i32 x0 x1 x2 x3 → post (.returned (.slice a' (n - 4) (c - 4))) (w.setCell ⟨b, 2, none⟩ (.int .i64 X)).drew := by
      intro X hX
      rw [← hpost.out, he, hX]
      have hH : Has (w.setCell ⟨b, 2, none⟩ (.int .i64 (i32 x0 x1 x2 x3))).drew b _ 50 := (hV.set 2 (.int .i64 (i32 x0 x1 x2 x3))).drew
      have hO : Only (fun k => k = b) w (w.setCell ⟨b, 2, none⟩ (.int .i64 (i32 x0 x1 x2 x3))).drew := ((Only.refl (fun k => k = b) w).setCell (a := ⟨b, 2, none⟩) (fun _ => rfl) _).drew
      refine ⟨a', n - 4, c - 4, rfl, by rw [List.length_drop, hn], by omega, fun k hk => ?_, hrd _ (hr'.only hO (fun k hk e => hb k hk e)), hO, hH⟩
      rw [hob k hk]; rfl
    clear hcell hob hrd hr hr' hV he
    replace hib := Lib.hid hib
    replace hfin := Lib.hid hfin
    replace hbb := Lib.hid hbb
    replace hn := Lib.hid hn
    go_enter Tryz.func56, Tryz.ntmps56
    go_upto_region 11 with fail
    have q0 : 0 < n := by omega
    have q1 : 1 < n := by omega
    have q2 : 2 < n := by omega
    have q3 : 3 < n := by omega
    have q4 : (0 : Int) < n := by omega
    have q5 : (1 : Int) < n := by omega
    have q6 : (2 : Int) < n := by omega
    have q7 : (3 : Int) < n := by omega
    refine region_tail 25 (by kernel_rfl) (by kernel_rfl) ?_
    simp only [List.take_succ_cons, List.take_zero, List.drop_succ_cons, List.drop_zero]
    repeat still_step
    refine wpStill_nil ?_
    go_wp2_with fail
    first | exact hfin.out _ hib.out | (go_ret; exact hfin.out _ hib.out)
set_option maxRecDepth 100000 in
theorem cut_mid (bl ol n c m : Nat) (mI : Int) (hmI : mI = (m : Int)) (q : List Nat) (hn : n = q.length) (h1 : 1 ≤ m) (hm : m ≤ n) (hc : n ≤ c) :
    ∃ o', (∀ wx, (Instr.slice 34 (.slice (some ⟨bl, ol, none⟩) n c) (some (.int .i64 1)) (some (.int .i64 mI)) none).run Tryz.prog wx = .ok (.slice (some ⟨bl, o', none⟩) (m - 1) (c - 1)) wx) ∧
      ∀ w', Rd w' (.slice (some ⟨bl, ol, none⟩) n c) n (bcells q) → Rd w' (.slice (some ⟨bl, o', none⟩) (m - 1) (c - 1)) (m - 1) (bcells ((q.take m).drop 1)) := by
  subst hmI
  have hr := fun wx => run_slice_lh (P := Tryz.prog) wx 34 (some ⟨bl, ol, none⟩) n c Tryz.underlying34 .i64 .i64 1 (m : Int) (by omega) (by omega) (by omega)
  refine ⟨if c = 1 then ol else ol + 1, fun wx => ?_, fun w' h => ?_⟩
  · rw [hr wx]
    have : (sizeOf (Tryz.prog.elem 34)).run Tryz.prog wx = .ok 1 wx := by simp [go_sem]
    rw [this]
    simp only [Result.andThen, sliced, Int.toNat_natCast]
    by_cases h : c = 1
    · rw [if_pos h]
      have h' : c = Int.toNat 1 := h
      rw [if_pos h']; rfl
    · rw [if_neg h]
      have h' : ¬ c = Int.toNat 1 := h
      rw [if_neg h']
      simp [Addr.add]
  · by_cases hm1 : m = 1
    · subst hm1
      have h2 : bcells ((q.take 1).drop 1) = [] := by rw [List.drop_eq_nil_of_le (by rw [List.length_take]; omega)]; rfl
      rw [h2]
      exact ⟨_, _, rfl, .inl ⟨rfl, rfl⟩⟩
    · rw [if_neg (by omega)]
      have h3 := bytes_drop (hr := h) hn 1 (c - 1)
      obtain ⟨a, cap, e, h4⟩ := h3
      refine ⟨_, _, rfl, ?_⟩
      simp only [Value.slice.injEq, true_and] at e
      obtain ⟨rfl, _⟩ := e
      rcases h4 with ⟨h5, _⟩ | ⟨b, off, hb, h5⟩
      · omega
      · right
        refine ⟨b, off, hb, fun j u hj => h5 j u ?_⟩
        have e1 : (bcells ((q.take m).drop 1))[j]? = ((bcells q).take m)[1 + j]? := by unfold bcells; rw [List.map_drop, List.map_take, List.getElem?_drop]
        have e2 : (bcells (q.drop 1))[j]? = (bcells q)[1 + j]? := by unfold bcells; rw [List.map_drop, List.getElem?_drop]
        rw [e1, List.getElem?_take] at hj
        rw [e2]
        split at hj
        · exact hj
        · cases hj
theorem conv_zero (a : Addr) (c : Nat) (w : World) : (convert 34 9 (.slice (some a) 0 c)).run Tryz.prog w = .ok (.string ByteArray.empty) w :=
  run_convert_bytes_back (P := Tryz.prog) w 34 9 5 a c [] Tryz.underlying34 Tryz.underlying5 Tryz.underlying9 (fun j hj => by simp at hj)
theorem lax_text {q : List Nat} (h0 : 0 < q.length) : laxP 2 q = if q.length < 1 + q.getD 0 0 then (zeroV 2 false, []) else ({ zeroV 2 false with tx := strOfNats ((q.take (1 + q.getD 0 0)).drop 1) }, q.drop (1 + q.getD 0 0)) := by
  have e : (if (2 : Nat) = 1 then 4 else if (2 : Nat) = 2 ∧ 0 < q.length then 1 + q.getD 0 0 else 1) = 1 + q.getD 0 0 := by rw [if_neg (by decide), if_pos ⟨rfl, h0⟩]
  unfold laxP
  rw [e]
  by_cases h : q.length < 1 + q.getD 0 0
  · rw [if_pos h, if_pos h]
  · rw [if_neg h, if_neg h, if_neg (by decide), if_pos rfl]
theorem lax_other {ty : Nat} (h1 : ty ≠ 1) (h2 : ty ≠ 2) (q : List Nat) : laxP ty q = if q.length < 1 then (zeroV ty false, []) else ({ zeroV ty false with b := decide (q.getD 0 0 ≠ 0) }, q.drop 1) := by
  have e : (if ty = 1 then 4 else if ty = 2 ∧ 0 < q.length then 1 + q.getD 0 0 else 1) = 1 := by rw [if_neg h1, if_neg (fun h => h2 h.1)]
  unfold laxP
  rw [e]
  by_cases h : q.length < 1
  · rw [if_pos h, if_pos h]
  · rw [if_neg h, if_neg h, if_neg h1, if_neg h2]
set_option maxHeartbeats 4000000 in
set_option maxRecDepth 100000 in
theorem parse_bool (ty : Nat) (ht1 : ty ≠ 1) (ht2 : ty ≠ 2) (b : Nat) (q : List Nat) (hq : ∀ x ∈ q, x < 256) (hql : q.length ≤ 1000000) (a : Option Addr) (c : Nat) (hqc : q.length ≤ c) (w : World) (hV : Has w b (zeroV ty false).cells 50)
    (hr : Rd w (.slice a q.length c) q.length (bcells q)) (hb : ∀ k, Value.ownBlock (.slice a q.length c) = some k → k ≠ b) :
    Calls Tryz.prog 56 #[.pointer (some ⟨b, 0, none⟩), .slice a q.length c] w (ParsePost w b (.slice a q.length c) (laxP ty q)) := by
  generalize hpost : ParsePost w b (.slice a q.length c) (laxP ty q) = post
  replace hpost := Lib.hid hpost
  have v0 : w.cell? ⟨b, 0, none⟩ = some (.int .u8 (ty : Int)) := hV.cell (o := 0) rfl
  have d1 : ((ty : Int) == 1) = false := by rw [beq_eq_false_iff_ne]; omega
  have d2 : ((ty : Int) == 2) = false := by rw [beq_eq_false_iff_ne]; omega
  obtain ⟨n, hn⟩ : ∃ n, n = q.length := ⟨_, rfl⟩
  have hr' := hr
  rw [← hn] at hb hql hqc hr' ⊢
  by_cases h4 : n < 1
  · have dI : decide ((n : Int) < 1) = true := decide_eq_true (by omega)
    have hfin : post (.returned (.slice none 0 0)) w := by
      rw [← hpost.out]
      have e : laxP ty q = (zeroV ty false, []) := by rw [lax_other ht1 ht2, if_pos (by omega)]
      rw [e]
      exact ⟨none, 0, 0, rfl, rfl, Nat.le_refl _, (fun k hk => by cases hk), Rd.nil w, Only.refl _ _, hV⟩
    replace hfin := Lib.hid hfin
    replace hn := Lib.hid hn
    replace ht1 := Lib.hid ht1
    replace ht2 := Lib.hid ht2
    go_enter Tryz.func56, Tryz.ntmps56
    go_wp2_with fail
    first | exact hfin.out | (go_ret; exact hfin.out)
  · have dI : decide ((n : Int) < 1) = false := decide_eq_false (by omega)
    obtain ⟨bl, ol, rfl, hcell⟩ := byte_cell hr (by omega)
    have c0 := hcell 0 (by omega)
    have hx0 := hq (q.getD 0 0) (List.mem_of_getElem? (get_lt 0 (by omega)))
    have he : laxP ty q = ({ zeroV ty false with b := decide (q.getD 0 0 ≠ 0) }, q.drop 1) := by rw [lax_other ht1 ht2, if_neg (by omega)]
    generalize q.getD 0 0 = x0 at *
    rw [Nat.add_zero] at c0
    have hf := hV.free 4
    have v4 : w.cell? ⟨b, 4, none⟩ = some (.bool false) := hV.cell (o := 4) rfl
    have hbb : b ≠ bl := fun e => hb bl rfl e.symm
    obtain ⟨a', hsl, hob, hrd⟩ := cut_from bl ol n c 1 1 rfl q hn (by omega) hqc
    have hfin : ∀ X, X = decide (x0 ≠ 0) → post (.returned (.slice a' (n - 1) (c - 1))) (w.setCell ⟨b, 4, none⟩ (.bool X)) := by
      intro X hX
      rw [← hpost.out, he, hX]
      have hH : Has (w.setCell ⟨b, 4, none⟩ (.bool (decide (x0 ≠ 0)))) b _ 50 := (hV.set 4 (.bool (decide (x0 ≠ 0))))
      have hO : Only (fun k => k = b) w (w.setCell ⟨b, 4, none⟩ (.bool (decide (x0 ≠ 0)))) := ((Only.refl (fun k => k = b) w).setCell (a := ⟨b, 4, none⟩) (fun _ => rfl) _)
      refine ⟨a', n - 1, c - 1, rfl, by rw [List.length_drop, hn], by omega, fun k hk => ?_, hrd _ (hr'.only hO (fun k hk e => hb k hk e)), hO, hH⟩
      rw [hob k hk]; rfl
    obtain ⟨X, hX⟩ : ∃ X, X = decide (x0 ≠ 0) := ⟨_, rfl⟩
    have hXI : ((x0 : Int) != 0) = X := by rw [hX]; by_cases h : x0 = 0 <;> simp [h]
    have hg := hfin X hX
    clear hcell hob hrd hr hr' hV he hfin
    replace hX := Lib.hid hX
    replace hg := Lib.hid hg
    replace hbb := Lib.hid hbb
    replace hn := Lib.hid hn
    replace ht1 := Lib.hid ht1
    replace ht2 := Lib.hid ht2
    go_enter Tryz.func56, Tryz.ntmps56
    have q0 : 0 < n := by omega
    have q4 : (0 : Int) < n := by omega
    go_wp2_with fail
    first | exact hg.out | (go_ret; exact hg.out)
set_option maxHeartbeats 4000000 in
set_option maxRecDepth 100000 in
theorem parse_text (b : Nat) (q : List Nat) (hq : ∀ x ∈ q, x < 256) (hql : q.length ≤ 1000000) (a : Option Addr) (c : Nat) (hqc : q.length ≤ c) (w : World) (hV : Has w b (zeroV 2 false).cells 50)
    (hr : Rd w (.slice a q.length c) q.length (bcells q)) (hb : ∀ k, Value.ownBlock (.slice a q.length c) = some k → k ≠ b) :
    Calls Tryz.prog 56 #[.pointer (some ⟨b, 0, none⟩), .slice a q.length c] w (ParsePost w b (.slice a q.length c) (laxP 2 q)) := by
  generalize hpost : ParsePost w b (.slice a q.length c) (laxP 2 q) = post
  replace hpost := Lib.hid hpost
  have v0 : w.cell? ⟨b, 0, none⟩ = some (.int .u8 2) := hV.cell (o := 0) rfl
  obtain ⟨n, hn⟩ : ∃ n, n = q.length := ⟨_, rfl⟩
  have hr' := hr
  rw [← hn] at hb hql hqc hr' ⊢
  by_cases h0 : n = 0
  · have dI : decide ((n : Int) < 1) = true := decide_eq_true (by omega)
    have dJ : decide ((n : Int) > 0) = false := decide_eq_false (by omega)
    have hfin : post (.returned (.slice none 0 0)) w := by
      rw [← hpost.out]
      have e : laxP 2 q = (zeroV 2 false, []) := by rw [List.eq_nil_of_length_eq_zero (show q.length = 0 by omega)]; rfl
      rw [e]
      exact ⟨none, 0, 0, rfl, rfl, Nat.le_refl _, (fun k hk => by cases hk), Rd.nil w, Only.refl _ _, hV⟩
    replace hfin := Lib.hid hfin
    replace hn := Lib.hid hn
    go_enter Tryz.func56, Tryz.ntmps56
    go_wp2_with fail
    first | exact hfin.out | (go_ret; exact hfin.out)
  · have dJ : decide ((n : Int) > 0) = true := decide_eq_true (by omega)
    obtain ⟨bl, ol, rfl, hcell⟩ := byte_cell hr (by omega)
    have c0 := hcell 0 (by omega)
    have hx0 := hq (q.getD 0 0) (List.mem_of_getElem? (get_lt 0 (by omega)))
    have he : laxP 2 q = if n < 1 + q.getD 0 0 then (zeroV 2 false, []) else ({ zeroV 2 false with tx := strOfNats ((q.take (1 + q.getD 0 0)).drop 1) }, q.drop (1 + q.getD 0 0)) := by
      rw [hn]; exact lax_text (by omega)
    generalize q.getD 0 0 = x0 at *
    rw [Nat.add_zero] at c0
    have q0 : 0 < n := by omega
    have q4 : (0 : Int) < n := by omega
    have w1 : wrap64 (x0 : Int) = x0 := by unfold wrap64; omega
    have w2 : wrap64 (1 + (x0 : Int)) = 1 + (x0 : Int) := by unfold wrap64; omega
    by_cases h4 : n < 1 + x0
    · have dI : decide ((n : Int) < 1 + (x0 : Int)) = true := decide_eq_true (by omega)
      have hfin : post (.returned (.slice none 0 0)) w := by
        rw [← hpost.out, he, if_pos h4]
        exact ⟨none, 0, 0, rfl, rfl, Nat.le_refl _, (fun k hk => by cases hk), Rd.nil w, Only.refl _ _, hV⟩
      replace hfin := Lib.hid hfin
      replace hn := Lib.hid hn
      replace h0 := Lib.hid h0
      clear hcell he
      go_enter Tryz.func56, Tryz.ntmps56
      go_wp2_with fail
      first | exact hfin.out | (go_ret; exact hfin.out)
    · have dI : decide ((n : Int) < 1 + (x0 : Int)) = false := decide_eq_false (by omega)
      rw [if_neg h4] at he
      have hf := hV.free 3
      have v3 : w.cell? ⟨b, 3, none⟩ = some (.string ByteArray.empty) := hV.cell (o := 3) rfl
      have hbb : b ≠ bl := fun e => hb bl rfl e.symm
      obtain ⟨a', hsl, hob, hrd⟩ := cut_from bl ol n c (1 + x0) (1 + (x0 : Int)) (by omega) q hn (by omega) hqc
      obtain ⟨o'', hsl2, hrd2⟩ := cut_mid bl ol n c (1 + x0) (1 + (x0 : Int)) (by omega) q hn (by omega) (by omega) hqc
      obtain ⟨S, hS⟩ : ∃ S, S = strOfNats ((q.take (1 + x0)).drop 1) := ⟨_, rfl⟩
      rw [← hS] at he
      have hfin : post (.returned (.slice a' (n - (1 + x0)) (c - (1 + x0)))) (w.setCell ⟨b, 3, none⟩ (.string S)) := by
        rw [← hpost.out, he]
        have hH : Has (w.setCell ⟨b, 3, none⟩ (.string S)) b _ 50 := (hV.set 3 (.string S))
        have hO : Only (fun k => k = b) w (w.setCell ⟨b, 3, none⟩ (.string S)) := ((Only.refl (fun k => k = b) w).setCell (a := ⟨b, 3, none⟩) (fun _ => rfl) _)
        refine ⟨a', n - (1 + x0), c - (1 + x0), rfl, by rw [List.length_drop, hn], by omega, fun k hk => ?_, hrd _ (hr'.only hO (fun k hk e => hb k hk e)), hO, hH⟩
        rw [hob k hk]; rfl
      have hlen : ((q.take (1 + x0)).drop 1).length = x0 := by rw [List.length_drop, List.length_take]; omega
      have hcv : (convert 34 9 (.slice (some ⟨bl, o'', none⟩) (1 + x0 - 1) (c - 1))).run Tryz.prog w = .ok (.string S) w := by
        have h2 := hrd2 w hr'
        by_cases hx : x0 = 0
        · subst hx
          rw [hS, List.eq_nil_of_length_eq_zero hlen]
          exact conv_zero _ _ _
        · have e3 : 1 + x0 - 1 = ((q.take (1 + x0)).drop 1).length := by omega
          rw [e3] at h2 ⊢
          rw [hS]
          exact conv_rds h2 (fun x hx => hq x (List.mem_of_mem_take (List.mem_of_mem_drop hx))) (by omega)
      have hn3 : 1 + x0 - 1 = x0 := by omega
      rw [hn3] at hcv hsl2
      obtain ⟨A, hA⟩ : ∃ A, A = n - (1 + x0) := ⟨_, rfl⟩
      obtain ⟨B, hB⟩ : ∃ B, B = c - (1 + x0) := ⟨_, rfl⟩
      obtain ⟨C, hC⟩ : ∃ C, C = c - 1 := ⟨_, rfl⟩
      rw [← hA, ← hB] at hfin hsl
      rw [← hC] at hcv hsl2
      clear hcell hob hrd hr hr' hV he hrd2 hlen
      replace hA := Lib.hid hA
      replace hB := Lib.hid hB
      replace hC := Lib.hid hC
      replace hn3 := Lib.hid hn3
      replace hS := Lib.hid hS
      replace hfin := Lib.hid hfin
      replace hbb := Lib.hid hbb
      replace hn := Lib.hid hn
      replace h0 := Lib.hid h0
      go_enter Tryz.func56, Tryz.ntmps56
      go_wp2_with fail
      first | exact hfin.out | (go_ret; exact hfin.out)
theorem parse_any (ty : Nat) (b : Nat) (q : List Nat) (hq : ∀ x ∈ q, x < 256) (hql : q.length ≤ 1000000) (a : Option Addr) (c : Nat) (hqc : q.length ≤ c) (w : World) (hV : Has w b (zeroV ty false).cells 50)
    (hr : Rd w (.slice a q.length c) q.length (bcells q)) (hb : ∀ k, Value.ownBlock (.slice a q.length c) = some k → k ≠ b) :
    Calls Tryz.prog 56 #[.pointer (some ⟨b, 0, none⟩), .slice a q.length c] w (ParsePost w b (.slice a q.length c) (laxP ty q)) := by
  by_cases h1 : ty = 1
  · subst h1; exact parse_int b q hq hql a c hqc w hV hr hb
  · by_cases h2 : ty = 2
    · subst h2; exact parse_text b q hq hql a c hqc w hV hr hb
    · exact parse_bool ty h1 h2 b q hq hql a c hqc w hV hr hb
end Go.Proofs.YtpjbcadelmjmfaaGreatDoor
