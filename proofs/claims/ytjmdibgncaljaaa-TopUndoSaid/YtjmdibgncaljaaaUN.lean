/- The program's From; image.Device. -/
import Derived.Test.YtjmdibgncaljaaaUM
import Derived.Test.YtjmdibgncaljaaaH0
import Derived.Test.YtjmdibgncaljaaaK6
namespace Go.Proofs.Ytjmdibgncaljaaa
open Go.RowKit Go.Lib Dev
variable {w : World} {F : Own} {o T : Nat} {L : Lay} {R : Dv} {lb : Nat}
theorem own_has {b cap n : Nat} {T : TypeId} {cs : List Value} (h : Has w b cs T) (hl : cs.length = n) (hc : n ≤ maxLen) (hcap : cap = n) : w.ownsRow 0 T 1 (.slice (some ⟨b, 0, none⟩) n cap) n cs := by
  subst hcap
  refine ⟨by omega, .inr ⟨b, cap, cs.toArray, rfl, Nat.zero_le _, h, Nat.le_refl _, hc, by simp [hl], ?_⟩⟩
  rw [List.take_of_length_le (by simp; omega)]
set_option maxHeartbeats 2000000 in
set_option maxRecDepth 100000 in
theorem from_any (F : Own) (o : Nat) {a : Option Addr} {c : Nat} {ws : List Nat} (hr : Rd w (.slice a (bytesL ws).length c) (bytesL ws).length (u8s (bytesL ws))) (n : Nat) (hl : ws.length = n * 8) (h1 : 1 ≤ n) (h2 : n ≤ 4096) (hw : ∀ x ∈ ws, x < 18446744073709551616) :
    Calls Try.prog 85 #[.slice a (bytesL ws).length c] w (NewPost w F o (fromP n ws)) := by
  generalize hpost : NewPost w F o (fromP n ws) = post
  have hbl : (bytesL ws).length = n * 64 := by rw [bytesL_len]; omega
  rw [hbl] at hr
  rw [hbl]
  have hmk := make1 (P := Try.prog) 70 27 (.int .u64 0) 8 Try.underlying70 infoU64 rfl (n * 8) (by omega) (by omega) w
  rw [show ((n * 8 : Nat) : Int) = (n : Int) * 64 / 8 from by omega] at hmk
  have hz0 : Has (w.alloc (.cells (Array.replicate (n * 8) (.int .u64 0)) 27)) w.heap.size (u64s (partL ws 0)) 27 := by
    rw [partL_zero, hl, u64s_rep]; exact Has.rep _ _ _ _
  have hB0 := (Below.refl w.heap.size w).alloc (Nat.le_refl _) (.cells (Array.replicate (n * 8) (.int .u64 0)) 27)
  have hfin : ∀ wr, Has wr w.heap.size (u64s ws) 27 → Below w.heap.size w wr → Calls Try.prog 39 #[.slice (some ⟨w.heap.size, 0, none⟩) (n * 8) (n * 8)] wr (fun e w' => ∃ p, e = .returned p ∧ post (.returned (.tuple #[p, .int .i64 0])) w') := by
    intro wr hh hB
    have hown := own_has hh (n := n * 8) (cap := n * 8) (by rw [u64s_len, hl]) (by unfold maxLen; omega) rfl
    refine (of_any (w := wr) (F := F.put w.heap.size (o, 1, 0)) (o := o) n w.heap.size (n * 8) ws hl h1 h2 hw hown (Own.put_at _ _ _)).mono ?_
    rintro e w' ⟨L, F', rfl, hD, _, hx, hB'⟩
    refine ⟨_, rfl, ?_⟩
    rw [← hpost]
    exact ⟨L, F', rfl, hD, ((Ext.refl w F).put (Nat.le_refl _) _).trans hx hB.size, hB.trans (hB'.mono hB.size)⟩
  have hn1 : (1 : Int) ≤ (n : Int) := by omega
  have hn2 : (n : Int) ≤ 4096 := by omega
  replace hpost := Lib.hid hpost
  replace hfin := Lib.hid hfin
  replace hbl := Lib.hid hbl
  replace hr := Lib.hid hr
  replace hl := Lib.hid hl
  have hd0 : ((n : Int) * 64 == 0) = false := by rw [beq_eq_false_iff_ne]; omega
  have hd1 : decide ((4096 : Int) < (n : Int)) = false := decide_eq_false (by omega)
  have hd2 : ¬ n = 0 := by omega
  have hd3 : ¬ (4096 : Int) < (n : Int) := by omega
  go_enter Try.func85, Try.ntmps85
  go_wp2_with fail
  go_loopw [26] (fun i wr => ∃ k : Nat, k ≤ n * 64 ∧ i = .int .i64 k ∧ Has wr w.heap.size (u64s (partL ws k)) 27 ∧ Below w.heap.size w wr) (fun i _ => n * 64 - (intOf i).toNat)
  case atStart => exact ⟨0, Nat.zero_le _, rfl, hz0, hB0⟩
  case round =>
    clear hz0 hB0 hmk
    obtain ⟨k, hk, rfl, hH, hB⟩ := hrel
    by_cases hlt : k < n * 64
    · have hkI : (k : Int) < (n : Int) * 64 := by omega
      have hk0 : (0 : Int) ≤ (k : Int) := by omega
      have hk8 : ((k / 8 : Nat) : Int) < (n : Int) * 8 := by omega
      have hkl : k < ws.length * 8 := by rw [hl.out]; omega
      obtain ⟨bl, ol, cl, ea, fa⟩ := (hr.out.kept hB).cells (by omega)
      simp only [Value.slice.injEq, true_and] at ea
      obtain ⟨rfl, e1⟩ := ea
      replace e1 := Lib.hid e1
      have c0 : wr.cell? ⟨bl, ol + k, none⟩ = some (.int .u8 ((byteAt ws k : Nat) : Int)) := fa _ _ (u8s_get _ k _ (bytesL_get ws k hkl))
      have hpl : (partL ws k)[k / 8]? = some ((partL ws k).getD (k / 8) 0) := get_of_lt 0 (by rw [partL_len]; omega)
      have cp := hH.cell (o := k / 8) (u64s_get _ _ _ hpl)
      have fp := hH.free (k / 8)
      have hb256 := byteAt_lt ws k
      have hat := partL_at ws k hkl
      have hor := or_wrap ((partL ws k).getD (k / 8) 0) (byteAt ws k) (k % 8) hat hb256 (by omega)
      have hsucc := partL_succ ws k hkl
      generalize byteAt ws k = x at *
      generalize (partL ws k).getD (k / 8) 0 = y at *
      replace hpl := Lib.hid hpl
      replace hor := Lib.hid hor
      replace hat := Lib.hid hat
      replace hsucc := Lib.hid hsucc
      have hS : Has (wr.setCell ⟨w.heap.size, k / 8, none⟩ (.int .u64 (bits .or .u64 (y : Int) (IntKind.u64.wrap ((x : Int) * 2 ^ (k % 8 * 8)))))) w.heap.size (u64s (partL ws (k + 1))) 27 := by
        rw [hsucc.out, u64s_set, hor.out]; exact hH.set _ _
      have hB2 := hB.setCell (p := ⟨w.heap.size, k / 8, none⟩) (Nat.le_refl _) (.int .u64 (bits .or .u64 (y : Int) (IntKind.u64.wrap ((x : Int) * 2 ^ (k % 8 * 8)))))
      clear hH hB fa
      go_wp2_with fail
      exact ⟨⟨k + 1, by omega, by go_num, hS, hB2⟩, by simp [intOf]; omega⟩
    · obtain rfl : k = n * 64 := by omega
      have e1 : partL ws (n * 64) = ws := by
        have := partL_all ws hw
        rw [hl.out, show n * 8 * 8 = n * 64 by omega] at this
        exact this
      rw [e1] at hH
      replace e1 := Lib.hid e1
      have hx := Lib.hid (hfin.out wr hH hB)
      clear hH
      go_wp2_with fail
      refine hx.out.mono ?_
      rintro e w' ⟨p, rfl, hp⟩
      replace hp := Lib.hid hp
      go_wp2_with fail
      first | exact hp.out | (go_ret2; exact hp.out)

set_option maxHeartbeats 4000000 in
set_option maxRecDepth 100000 in
theorem idevice_any (F : Own) (o : Nat) (ws : List Nat) (n : Nat) (hl : ws.length = n * 8) (h1 : 1 ≤ n) (h2 : n ≤ 4096) (hw : ∀ x ∈ ws, x < 18446744073709551616) (w : World) :
    Calls Try.prog 74 #[.agg #[.string (strOf (bytesL ws))]] w (NewPost w F o (fromP n ws)) := by
  generalize hpost : NewPost w F o (fromP n ws) = post
  have hbl : (bytesL ws).length = n * 64 := by rw [bytesL_len]; omega
  obtain ⟨W1, hW1⟩ : ∃ W1, W1 = w.alloc (.cells #[.string (strOf (bytesL ws))] 53) := ⟨_, rfl⟩
  have hb1 : Below w.heap.size w W1 := by rw [hW1]; exact (Below.refl _ _).alloc (Nat.le_refl _) _
  have hN1 : Has W1 w.heap.size [.string (strOf (bytesL ws))] 53 := by rw [hW1]; exact Has.new w _ _
  have hfin : ∀ w2 e w', Below w.heap.size w w2 → NewPost w2 F o (fromP n ws) e w' → ∃ p, e = .returned (.tuple #[p, .int .i64 0]) ∧ post (.returned (.tuple #[p, .int .i64 0])) w' := fun w2 e w' hb h => by
    obtain ⟨L, F', rfl, h1, h2, h3⟩ := h
    refine ⟨_, rfl, ?_⟩
    rw [← hpost]
    exact ⟨L, F', rfl, h1, fun k hk => h2 k (Nat.lt_of_lt_of_le hk hb.size), hb.trans (h3.mono hb.size)⟩
  have hli := ilines_any W1 (bytesL ws) (by rw [hbl]; omega)
  rw [hbl, show n * 64 / 64 = n by omega] at hli
  have hby : ∀ wx, Calls Try.prog 19 #[.agg #[.string (strOf (bytesL ws))]] wx (fun e w2 => ∃ v, e = .returned v ∧ Below wx.heap.size wx w2 ∧ Calls Try.prog 85 #[v] w2 (NewPost w2 F o (fromP n ws))) := fun wx => (ibytes_any wx (bytesL ws) (bytesL_256 _)).mono fun e w2 h => by
    obtain ⟨a, c, rfl, h3, h4⟩ := h
    exact ⟨_, rfl, h4, from_any F o h3 n hl h1 h2 hw⟩
  have hb1' := Lib.hid hb1
  have hn0 : ((n : Int) == 0) = false := by rw [beq_eq_false_iff_ne]; omega
  replace hfin := Lib.hid hfin
  replace hli := Lib.hid hli
  replace hby := Lib.hid hby
  replace hN1 := Lib.hid hN1
  generalize bytesL ws = bs at *
  generalize strOf bs = st at *
  replace hW1 := Lib.hid hW1.symm
  clear hpost hbl hw hl h1 h2 hb1
  have d0 := hN1.out.cell (o := 0) rfl
  go_enter Try.func74, Try.ntmps74
  go_wp2_with fail
  rw [hW1.out]
  go_wp2_with fail
  refine hli.out.mono ?_
  rintro e w2 ⟨rfl, hB2⟩
  have hN2 := Has.only hN1.out (Only.of_below hB2) (Nat.not_le.2 hN1.out.lt)
  have d1 := hN2.cell (o := 0) rfl
  have hb2 := Lib.hid (hb1'.out.trans (hB2.mono hb1'.out.size))
  have hb := Lib.hid (hby.out w2)
  clear hB2 hN2 hli d0
  go_wp2_with fail
  refine hb.out.mono ?_
  rintro e w3 ⟨v, rfl, hB3, hc⟩
  have hb3 := Lib.hid (hb2.out.trans (hB3.mono hb2.out.size))
  replace hc := Lib.hid hc
  clear hB3 hb d1
  go_wp2_with fail
  refine hc.out.mono ?_
  intro e w4 h4
  obtain ⟨p, rfl, hp⟩ := hfin.out w3 e w4 hb3.out h4
  replace hp := Lib.hid hp
  clear h4 hc
  go_wp2_with fail
  first | exact hp.out | (go_ret2; exact hp.out) | (go_ret; exact hp.out)
end Go.Proofs.Ytjmdibgncaljaaa
