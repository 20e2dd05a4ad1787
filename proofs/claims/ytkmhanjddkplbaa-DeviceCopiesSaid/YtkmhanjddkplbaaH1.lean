/- The law's short; the program's From. -/
import Derived.Test.YtkmhanjddkplbaaH0
import Derived.Test.YtkmhanjddkplbaaG3
namespace Go.Proofs.Ytkmhanjddkplbaa
open Go.RowKit Go.Maps
variable {w : World} {F : Own} {o o' h T : Nat} {R : Dv} {L : Lay}

/-- Bytes that came in. -/
structure BytesIn (w : World) (a : Option Addr) (c : Nat) (ch : List Nat) : Prop where
  r : Rd w (.slice a ch.length c) ch.length (u8s ch)
  lt : ∀ x ∈ ch, x < 256
  m : ch.length ≤ 9223372036854775807
  c : ch.length ≤ c
theorem BytesIn.kept {w' : World} {a : Option Addr} {c : Nat} {ch : List Nat} (hb : BytesIn w a c ch) (h : Below w.heap.size w w') : BytesIn w' a c ch := ⟨hb.r.kept h, hb.lt, hb.m, hb.c⟩
theorem Rd.take {w : World} {a : Option Addr} {n m c : Nat} {xs : List Value} (h : Rd w (.slice a n c) n xs) (hl : xs.length = n) (hm : m ≤ n) : Rd w (.slice a m c) m (xs.take m) := by
  obtain ⟨a', c', he, h⟩ := h
  simp only [Value.slice.injEq, true_and] at he
  obtain ⟨rfl, rfl⟩ := he
  refine ⟨_, _, rfl, ?_⟩
  rcases h with ⟨rfl, rfl⟩ | ⟨b, off, rfl, h⟩
  · exact .inl ⟨by omega, by simp⟩
  · refine .inr ⟨b, off, rfl, fun j u hj => h j u ?_⟩
    rw [List.getElem?_take] at hj
    split at hj
    · exact hj
    · cases hj
theorem u8s_len (l : List Nat) : (u8s l).length = l.length := by simp [u8s]
theorem u8s_take (l : List Nat) (m : Nat) : u8s (l.take m) = (u8s l).take m := by simp [u8s, List.map_take]
theorem BytesIn.take {a : Option Addr} {c : Nat} {ch : List Nat} (hb : BytesIn w a c ch) (n : Nat) : BytesIn w a c (ch.take n) := by
  have h1 : (ch.take n).length ≤ ch.length := List.length_take_le' _ _
  refine ⟨?_, fun x hx => hb.lt x (List.mem_of_mem_take hx), Nat.le_trans h1 hb.m, Nat.le_trans h1 hb.c⟩
  have := hb.r.take (m := (ch.take n).length) (u8s_len _) h1
  rw [← u8s_take] at this
  have e : ch.take (ch.take n).length = ch.take n := by
    rw [List.length_take]
    rcases Nat.le_total n ch.length with h | h
    · rw [Nat.min_eq_left h]
    · rw [Nat.min_eq_right h, List.take_length, List.take_of_length_le h]
  rw [e] at this
  exact this
theorem BytesIn.of_row {a : Option Addr} {len cap : Nat} {zs : List Int} (h : IsRow .u8 w a len cap zs) : ∃ ch, ch.length = len ∧ BytesIn w a cap ch := by
  have hcap : len ≤ cap := by
    rcases h with ⟨_, rfl, rfl, _⟩ | ⟨x, _, hl, _⟩
    · exact Nat.le_refl _
    · exact hl
  obtain ⟨ys, h1, _, h2, h3, h4⟩ := h.rd
  have hy : ∀ y ∈ ys, 0 ≤ y ∧ y < 256 := fun y hy => by
    have := h3 y hy
    simp only [Lit.wf, Bool.and_eq_true, decide_eq_true_eq] at this
    have e1 : IntKind.min .u8 = 0 := by decide
    have e2 : IntKind.max .u8 = 255 := by decide
    rw [e1, e2] at this
    omega
  have hl : (ys.map Int.toNat).length = len := by simp [h1]
  refine ⟨ys.map Int.toNat, hl, ?_⟩
  have hu : u8s (ys.map Int.toNat) = ys.map (.int .u8) := by
    unfold u8s
    rw [List.map_map]
    apply List.map_congr_left
    intro y hyy
    have := hy y hyy
    simp only [Function.comp]
    congr 1; omega
  refine ⟨by rw [hl, hu]; exact h2, fun x hx => ?_, by omega, by omega⟩
  rw [List.mem_map] at hx
  obtain ⟨y, hyy, rfl⟩ := hx
  have := hy y hyy
  omega
set_option maxHeartbeats 1000000 in
theorem short_any {a : Option Addr} {c : Nat} {ch : List Nat} (hb : BytesIn w a c ch) (n : Nat) (nI : Int) (hn : nI = (n : Int)) :
    Calls Try.prog 13 #[.slice a ch.length c, .int .i64 nI] w fun e w' => e = .returned (.slice a (ch.take n).length c) ∧ w = w' := by
  have hc := hb.c
  have hm := hb.m
  generalize hpost : (fun (e : Ending) (w' : World) => e = .returned (.slice a (ch.take n).length c) ∧ w = w') = post
  by_cases hlt : n < ch.length
  · have hfin : post (.returned (.slice a n c)) w := by rw [← hpost]; exact ⟨by rw [List.length_take, Nat.min_eq_left (by omega)], rfl⟩
    have hd : decide (nI < (ch.length : Int)) = true := decide_eq_true (by omega)
    have h1 : nI < (ch.length : Int) := by omega
    have h2 : 0 ≤ nI := by omega
    have h3 : nI ≤ (c : Int) := by omega
    have h4 : nI.toNat = n := by omega
    generalize ch.length = m at *
    replace hfin := Lib.hid hfin
    replace h4 := Lib.hid h4
    clear hb hpost hn
    go_enter Try.func13, Try.ntmps13
    go_wp2_with fail
    exact end_post hfin.out (by show Value.slice a n c = Value.slice a nI.toNat c; rw [h4.out])
  · have hfin : post (.returned (.slice a ch.length c)) w := by rw [← hpost]; exact ⟨by rw [List.take_of_length_le (by omega)], rfl⟩
    have hd : decide (nI < (ch.length : Int)) = false := decide_eq_false (by omega)
    have h1 : ¬ nI < (ch.length : Int) := by omega
    generalize ch.length = m at *
    replace hfin := Lib.hid hfin
    clear hb hpost hn
    go_enter Try.func13, Try.ntmps13
    go_wp2_with fail
    first | exact hfin.out | (go_ret; exact hfin.out)
theorem Has.own {b cap n : Nat} {T : TypeId} {cs : List Value} (h : Has w b cs T) (hl : cs.length = n) (hc : n ≤ maxLen) (hcap : cap = n) : w.ownsRow 0 T 1 (.slice (some ⟨b, 0, none⟩) n cap) n cs := by
  subst hcap
  refine ⟨by omega, .inr ⟨b, cap, cs.toArray, rfl, Nat.zero_le _, h, Nat.le_refl _, hc, by simp [hl], ?_⟩⟩
  rw [List.take_of_length_le (by simp; omega)]
set_option maxHeartbeats 4000000 in
set_option maxRecDepth 100000 in
theorem from_any (F : Own) (o : Nat) {a : Option Addr} {c : Nat} {ws : List Nat} (hb : BytesIn w a c (bytesL ws)) (n : Nat) (hl : ws.length = n * 8) (h1 : 1 ≤ n) (h2 : n ≤ 4096) (hw : ∀ x ∈ ws, x < 18446744073709551616) :
    Calls Try.prog 18 #[.slice a (bytesL ws).length c] w (NewPost w F o (fromP n ws)) := by
  generalize hpost : NewPost w F o (fromP n ws) = post
  have hbl : (bytesL ws).length = n * 64 := by rw [bytesL_len]; omega
  have hr := hb.r
  rw [hbl] at hr
  rw [hbl]
  have hmk := make1 (P := Try.prog) 68 46 (.int .u64 0) 8 Try.underlying68 infoU64 rfl (n * 8) (by omega) (by omega) w
  rw [show ((n * 8 : Nat) : Int) = (n : Int) * 64 / 8 from by omega] at hmk
  have hz0 : Has (w.alloc (.cells (Array.replicate (n * 8) (.int .u64 0)) 46)) w.heap.size (u64s (partL ws 0)) 46 := by
    rw [partL_zero, hl, u64s_rep]; exact Has.rep _ _ _ _
  have hB0 := (Below.refl w.heap.size w).alloc (Nat.le_refl _) (.cells (Array.replicate (n * 8) (.int .u64 0)) 46)
  have hfin : ∀ wr, Has wr w.heap.size (u64s ws) 46 → Below w.heap.size w wr → Calls Try.prog 53 #[.slice (some ⟨w.heap.size, 0, none⟩) (n * 8) (n * 8)] wr (fun e w' => ∃ p, e = .returned p ∧ post (.returned (.tuple #[p, .int .i64 0])) w') := by
    intro wr hh hB
    have hown := hh.own (n := n * 8) (cap := n * 8) (by rw [u64s_len, hl]) (by unfold maxLen; omega) rfl
    refine (of_any (w := wr) (F := F.put w.heap.size (o, 1, 0)) (o := o) n w.heap.size (n * 8) ws hl h1 h2 hw hown (Own.put_at _ _ _)).mono ?_
    rintro e w' ⟨L, F', rfl, hD, _, hx, hB'⟩
    refine ⟨_, rfl, ?_⟩
    rw [← hpost]
    exact ⟨L, F', rfl, hD, ((Ext.refl w F).put (Nat.le_refl _) _).trans hx hB.size, hB.trans (hB'.mono hB.size)⟩
  have hn1 : (1 : Int) ≤ (n : Int) := by omega
  have hn2 : (n : Int) ≤ 4096 := by omega
  replace hpost := Lib.hid hpost
  replace hfin := Lib.hid hfin
  replace hbl := Lib.hid hbl
  replace hr := Lib.hid hr
  replace hl := Lib.hid hl
  clear hb
  have hd0 : ((n : Int) * 64 == 0) = false := by rw [beq_eq_false_iff_ne]; omega
  have hd1 : decide ((4096 : Int) < (n : Int)) = false := decide_eq_false (by omega)
  have hd2 : ¬ n = 0 := by omega
  have hd3 : ¬ (4096 : Int) < (n : Int) := by omega
  go_enter Try.func18, Try.ntmps18
  go_wp2_with fail
  go_loopw [26] (fun i wr => ∃ k : Nat, k ≤ n * 64 ∧ i = .int .i64 k ∧ Has wr w.heap.size (u64s (partL ws k)) 46 ∧ Below w.heap.size w wr) (fun i _ => n * 64 - (intOf i).toNat)
  case atStart => exact ⟨0, Nat.zero_le _, rfl, hz0, hB0⟩
  case round =>
    clear hz0 hB0 hmk
    obtain ⟨k, hk, rfl, hH, hB⟩ := hrel
    by_cases hlt : k < n * 64
    · have hkI : (k : Int) < (n : Int) * 64 := by omega
      have hk0 : (0 : Int) ≤ (k : Int) := by omega
      have hk8 : ((k / 8 : Nat) : Int) < (n : Int) * 8 := by omega
      have hkl : k < ws.length * 8 := by rw [hl.out]; omega
      obtain ⟨bl, ol, cl, ea, fa⟩ := (hr.out.kept hB).cells (by omega)
      simp only [Value.slice.injEq, true_and] at ea
      obtain ⟨rfl, e1⟩ := ea
      replace e1 := Lib.hid e1
      have c0 : wr.cell? ⟨bl, ol + k, none⟩ = some (.int .u8 ((byteAt ws k : Nat) : Int)) := fa _ _ (u8s_get _ k _ (bytesL_get ws k hkl))
      have hpl : (partL ws k)[k / 8]? = some ((partL ws k).getD (k / 8) 0) := get_of_lt 0 (by rw [partL_len]; omega)
      have cp := hH.cell (o := k / 8) (u64s_get _ _ _ hpl)
      have fp := hH.free (k / 8)
      have hb256 := byteAt_lt ws k
      have hat := partL_at ws k hkl
      have hor := or_wrap ((partL ws k).getD (k / 8) 0) (byteAt ws k) (k % 8) hat hb256 (by omega)
      have hsucc := partL_succ ws k hkl
      generalize byteAt ws k = x at *
      generalize (partL ws k).getD (k / 8) 0 = y at *
      replace hpl := Lib.hid hpl
      replace hor := Lib.hid hor
      replace hat := Lib.hid hat
      replace hsucc := Lib.hid hsucc
      have hS : Has (wr.setCell ⟨w.heap.size, k / 8, none⟩ (.int .u64 (bits .or .u64 (y : Int) (IntKind.u64.wrap ((x : Int) * 2 ^ (k % 8 * 8)))))) w.heap.size (u64s (partL ws (k + 1))) 46 := by
        rw [hsucc.out, u64s_set, hor.out]; exact hH.set _ _
      have hB2 := hB.setCell (p := ⟨w.heap.size, k / 8, none⟩) (Nat.le_refl _) (.int .u64 (bits .or .u64 (y : Int) (IntKind.u64.wrap ((x : Int) * 2 ^ (k % 8 * 8)))))
      clear hH hB fa
      go_wp2_with fail
      exact ⟨⟨k + 1, by omega, by go_num, hS, hB2⟩, by simp [intOf]; omega⟩
    · obtain rfl : k = n * 64 := by omega
      have e1 : partL ws (n * 64) = ws := by
        have := partL_all ws hw
        rw [hl.out, show n * 8 * 8 = n * 64 by omega] at this
        exact this
      rw [e1] at hH
      replace e1 := Lib.hid e1
      have hx := Lib.hid (hfin.out wr hH hB)
      clear hH
      go_wp2_with fail
      refine hx.out.mono ?_
      rintro e w' ⟨p, rfl, hp⟩
      replace hp := Lib.hid hp
      go_wp2_with fail
      first | exact hp.out | (go_ret2; exact hp.out)
end Go.Proofs.Ytkmhanjddkplbaa
