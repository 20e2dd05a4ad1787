/- crashset: Index. -/
import Derived.Test.YtikjpklbbjmioaaK29
namespace Go.Proofs.Ytikjpklbbjmioaa
open Go.RowKit Go.Maps
variable {w : World} {F : Own} {o T : Nat} {R : Dv} {L : Lay}
def IdxPost (w : World) (R : Dv) (ws : List Nat) (e : Ending) (w' : World) : Prop := e = .returned (.tuple #[.int .u64 (((idxV R ws).1 : Nat) : Int), .bool (idxV R ws).2]) ∧ Below w.heap.size w w'
set_option maxHeartbeats 4000000 in
set_option maxRecDepth 100000 in
theorem cindex_any (h : DevSt w F o L T R) (ws : List Nat) (m : Nat) (hm : ws.length = m * 8) (hm2 : m ≤ 5000) (hw : ∀ x ∈ ws, x < 18446744073709551616) :
    Calls Try.prog 26 #[.pointer (some ⟨L.g, 0, none⟩), .agg #[.string (strOf (bytesL ws))]] w (IdxPost w R ws) := by
  generalize hpost : IdxPost w R ws = post
  have hok := h.ok
  have hT := hok.t
  have hn2 := hok.n2
  have hdl0 : (dirtyL R).length ≤ R.lines.length := dirtyTo_len R R.lines.length
  obtain ⟨W0, hW0⟩ : ∃ W0, W0 = w.alloc (.cells #[.string (strOf (bytesL ws))] 44) := ⟨_, rfl⟩
  have hB0 : Below w.heap.size w W0 := by rw [hW0]; exact (Below.refl _ w).alloc (Nat.le_refl _) _
  have hI0 : Has W0 w.heap.size [.string (strOf (bytesL ws))] 44 := by rw [hW0]; exact Has.new w [.string (strOf (bytesL ws))] 44
  have hD0 := h.other (o' := o + 1) (Dstep.below (F := F) hB0) (by omega)
  have hex := examine_any hD0
  have hfd := fun wx pv lv hv (hs : SetSt wx R pv lv hv) => find_any hok hs ws m hm hm2 hw
  have hyes : ∀ wx, Below w.heap.size w wx → possB R ws = true → numTo R (dirtyL R) (leastR R ws) < 4611686018427387904 → post (.returned (.tuple #[.int .u64 ((numTo R (dirtyL R) (leastR R ws) : Nat) : Int), .bool true])) wx := fun wx hb h1 h2 => by
    rw [← hpost]; unfold IdxPost idxV idxN; rw [if_pos ⟨h1, h2⟩]; exact ⟨rfl, hb⟩
  have hno : ∀ wx, Below w.heap.size w wx → (possB R ws = false ∨ 4611686018427387904 ≤ numTo R (dirtyL R) (leastR R ws)) → post (.returned (.tuple #[.int .u64 0, .bool false])) wx := fun wx hb h1 => by
    rw [← hpost]; unfold IdxPost idxV idxN
    have hn : ¬ (possB R ws = true ∧ numTo R (dirtyL R) (leastR R ws) < 4611686018427387904) := by
      rintro ⟨h2, h3⟩
      rcases h1 with h1 | h1
      · rw [h1] at h2; cases h2
      · omega
    rw [if_neg hn]; exact ⟨rfl, hb⟩
  have hkl : (ksL R ws).length = (dirtyL R).length := ksTo_len R ws _
  have hks : ∀ k, k < (dirtyL R).length → (nats (ksL R ws))[k]? = some (.int .i64 ((leastR R ws ((dirtyL R).getD k 0) : Nat) : Int)) := fun k hk => by
    unfold nats ksL ksTo
    rw [List.getElem?_map, List.getElem?_map]
    have := get_of_lt 0 hk
    unfold dirtyL at this ⊢
    rw [this]; rfl
  have hdm : ∀ k, k < (dirtyL R).length → (dirtyL R)[k]? = some ((dirtyL R).getD k 0) ∧ baseL R ((dirtyL R).getD k 0) ≤ 100001 := fun k hk => by
    have h1 := get_of_lt 0 hk
    have h2 := (hok.ln _ (dirtyTo_mem (List.mem_of_getElem? h1)).1).hl
    refine ⟨h1, ?_⟩
    unfold baseL; omega
  have hmono := numTo_mono R (dirtyL R) (leastR R ws)
  have htake := numTo_take R (dirtyL R) (leastR R ws)
  have hlr := leastR_le R ws
  have c0 := hI0.cell (o := 0) rfl
  replace hpost := Lib.hid hpost
  replace hex := Lib.hid hex
  replace hfd := Lib.hid hfd
  replace hyes := Lib.hid hyes
  replace hno := Lib.hid hno
  replace hI0 := Lib.hid hI0
  replace hW0 := Lib.hid hW0
  replace hB0 := Lib.hid hB0
  replace hkl := Lib.hid hkl
  replace hks := Lib.hid hks
  replace hdm := Lib.hid hdm
  replace hmono := Lib.hid hmono
  replace htake := Lib.hid htake
  replace hlr := Lib.hid hlr
  replace hm := Lib.hid hm
  clear h hD0 hw
  go_enter Try.func26, Try.ntmps26
  go_wp2_with fail
  rw [← hW0.out]
  refine hex.out.mono ?_
  rintro e w1 ⟨pv, lv, hv, rfl, hs1, hB1⟩
  have hBs := hB1.size
  have hI1 := hI0.out.only (Only.of_below hB1) (by have := hI0.out.lt; omega)
  obtain ⟨w2, hw2⟩ : ∃ w2, w2 = w1.alloc (.cells #[pv, lv, hv] 102) := ⟨_, rfl⟩
  have hB12 : Below w1.heap.size w1 w2 := by rw [hw2]; exact (Below.refl _ _).alloc (Nat.le_refl _) _
  have hs2 := hs1.kept hB12
  have hS2 : Has w2 w1.heap.size [pv, lv, hv] 102 := by rw [hw2]; exact Has.new w1 [pv, lv, hv] 102
  have hI2 := hI1.only (Only.of_below hB12) (Nat.not_le.2 hI1.lt)
  have c2 := hI2.cell (o := 0) rfl
  have s20 := hS2.cell (o := 0) rfl
  have s21 := hS2.cell (o := 1) rfl
  have s22 := hS2.cell (o := 2) rfl
  have hBw2 : Below w.heap.size w w2 := hB0.out.trans ((hB1.trans (hB12.mono hBs)).mono hB0.out.size)
  have hf2 := hfd.out w2 pv lv hv hs2
  rw [hw2] at c2 s20 s21 s22
  obtain ⟨⟨pb, rfl, _⟩, ⟨la, lc, rfl, _⟩, ⟨ha, hc, vs, rfl, hH, hh⟩⟩ := id hs2
  replace hf2 := Lib.hid hf2
  replace hS2 := Lib.hid hS2
  replace hw2 := Lib.hid hw2
  replace hBw2 := Lib.hid hBw2
  replace hH := Lib.hid hH
  replace hh := Lib.hid hh
  clear hs1 hs2 hI1 hI2 hB12 hfd c0 hB1
  go_wp2_with fail
  rw [← hw2.out]
  refine hf2.out.mono ?_
  intro e w3 hp3
  unfold FindPost at hp3
  cases hpb : possB R ws with
  | false =>
    rw [if_neg (by rw [hpb]; decide)] at hp3
    obtain ⟨rfl, hB3⟩ := hp3
    have hx := Lib.hid (hno.out w3 (hBw2.out.trans (hB3.mono hBw2.out.size)) (.inl hpb))
    replace hpb := Lib.hid hpb
    clear hB3
    go_wp2_with fail
    exact hx.out
  | true =>
    rw [if_pos hpb] at hp3
    obtain ⟨ka, kc, rfl, hown, hB3, _⟩ := hp3
    rw [hkl.out] at hown ⊢
    have hBw3 := hBw2.out.trans (hB3.mono hBw2.out.size)
    have hr3 := Rd.of_own hown
    have hh3 := hh.out.kept hB3
    have hS3 := hS2.out.only (Only.of_below hB3) (by have := hS2.out.lt; omega)
    have hHg := hH.out.2
    have s32 := hS3.cell (o := 2) rfl
    replace hpb := Lib.hid hpb
    replace hHg := Lib.hid hHg
    replace hBw3 := Lib.hid hBw3
    clear hown hB3 hS3 s20 s21 s22 c2
    generalize dirtyL R = ds at *
    generalize (bytesL R.perW).length = np at *
    go_wp2_with fail
    go_loopw [9, 28] (fun nv iv wr => ∃ k : Nat, k ≤ ds.length ∧ iv = .int .i64 (k : Int) ∧ nv = .int .u64 ((numTo R (ds.take k) (leastR R ws) : Nat) : Int) ∧ numTo R (ds.take k) (leastR R ws) < 4611686018427387904 ∧ wr = w3) (fun _ iv _ => ds.length - (intOf iv).toNat)
    case atStart => exact ⟨0, Nat.zero_le _, rfl, rfl, by rw [List.take_zero]; show 0 < 4611686018427387904; omega, rfl⟩
    case round =>
      obtain ⟨k, hk, rfl, rfl, hlt62, hwr⟩ := hrel
      replace hwr := hwr.symm
      subst hwr
      by_cases hlt : k < ds.length
      · have hkI : decide ((k : Int) < (ds.length : Int)) = true := decide_eq_true (by omega)
        have hkN : decide (k < ds.length) = true := decide_eq_true hlt
        have hk0 : (0 : Int) ≤ (k : Int) := by omega
        have hkl2 : (k : Int) < (ds.length : Int) := by omega
        obtain ⟨hdk, hdb⟩ := hdm.out k hlt
        obtain ⟨xa, xc, hx, _⟩ := hHg.out k _ hdk
        obtain ⟨bl, ol, cl, ea, fa⟩ := hh3.cells (by omega)
        simp only [Value.slice.injEq, true_and] at ea
        obtain ⟨rfl, ea2⟩ := ea
        replace ea2 := Lib.hid ea2
        have ck := fa _ _ hx
        obtain ⟨bk, ok, kcl, eb, fb⟩ := hr3.cells (by omega)
        simp only [Value.slice.injEq, true_and] at eb
        obtain ⟨rfl, eb2⟩ := eb
        replace eb2 := Lib.hid eb2
        have cq := fb _ _ (hks.out k hlt)
        have hpk := htake.out k hlt
        have hmn := hmono.out (k + 1)
        have hB : baseL R (ds.getD k 0) = (R.line (ds.getD k 0)).hist.length + 1 := rfl
        have hl1 := hlr.out (ds.getD k 0)
        generalize ds.getD k 0 = d at *
        obtain ⟨b, hb⟩ : ∃ b, b = baseL R d := ⟨_, rfl⟩
        rw [← hb] at hpk hB hdb
        generalize (R.line d).hist.length = hlen at *
        generalize leastR R ws d = kk at *
        generalize hP : numTo R (ds.take k) (leastR R ws) = P at *
        have hmul : Calls Try.prog 60 #[.int .u64 (P : Int), .int .u64 ((hlen : Int) + 1)] w3 fun e w' => e = .returned (.tuple #[.int .u64 ((P * b / 18446744073709551616 : Nat) : Int), .int .u64 ((P * b % 18446744073709551616 : Nat) : Int)]) ∧ w' = w3 := by
          have := Try.bits_Mul64 P b (by omega) (by omega) w3
          rw [show ((b : Nat) : Int) = (hlen : Int) + 1 by omega] at this
          exact this
        have hhb : hlen ≤ 100000 := by omega
        have hcase : (18446744073709551616 ≤ P * b ∧ 0 < P * b / 18446744073709551616) ∨ (P * b < 18446744073709551616 ∧ 4611686018427387904 ≤ P * b ∧ P * b / 18446744073709551616 = 0 ∧ P * b % 18446744073709551616 = P * b) ∨
            (P * b < 4611686018427387904 ∧ 4611686018427387904 ≤ P * b + kk ∧ P * b / 18446744073709551616 = 0 ∧ P * b % 18446744073709551616 = P * b) ∨ (P * b + kk < 4611686018427387904 ∧ P * b / 18446744073709551616 = 0 ∧ P * b % 18446744073709551616 = P * b) := by
          generalize P * b = X
          omega
        obtain ⟨hi, hhi⟩ : ∃ hi, hi = P * b / 18446744073709551616 := ⟨_, rfl⟩
        obtain ⟨lo, hlo⟩ : ∃ lo, lo = P * b % 18446744073709551616 := ⟨_, rfl⟩
        rw [← hhi, ← hlo] at hmul hcase
        have hlo2 : lo < 18446744073709551616 := by rw [hlo]; exact Nat.mod_lt _ (by omega)
        have hsum : numTo R (ds.take (k + 1)) (leastR R ws) = P * b + kk := hpk
        generalize P * b = X at *
        replace hhi := Lib.hid hhi
        replace hlo := Lib.hid hlo
        replace hB := Lib.hid hB
        replace hmul := Lib.hid hmul
        replace hb := Lib.hid hb
        replace hdk := Lib.hid hdk
        replace hP := Lib.hid hP
        replace hkl := Lib.hid hkl
        clear fa hx fb hr3 hh3 hpk
        have hbad : 4611686018427387904 ≤ X + kk → post (.returned (.tuple #[.int .u64 0, .bool false])) w3 := fun h => hno.out w3 hBw3.out (.inr (by omega))
        replace hsum := Lib.hid hsum
        replace hmn := Lib.hid hmn
        have hkb : kk ≤ 100000 := by omega
        have hu : IntKind.u64.wrap (kk : Int) = (kk : Int) := IntWalk.u64_in _ (by omega)
        rcases hcase with ⟨h1, h2⟩ | ⟨h1, h2, h3, h4⟩ | ⟨h1, h2, h3, h4⟩ | ⟨h1, h3, h4⟩
        · have g1 : ((hi : Int) == 0) = false := beq_eq_false_iff_ne.2 (by omega)
          have g2 : ((hi : Int) != 0) = true := by rw [bne, g1]; rfl
          have hx := Lib.hid (hbad (by omega))
          have h2' : ¬ ((hi : Int) = 0) := by omega
          replace h1 := Lib.hid h1
          clear hbad
          go_wp2_with (refine hmul.out.mono ?_; rintro e w' ⟨rfl, rfl⟩)
          exact hx.out
        · have g1 : ((hi : Int) == 0) = true := beq_iff_eq.2 (by omega)
          have g2 : ((hi : Int) != 0) = false := by rw [bne, g1]; rfl
          have g3 : decide ((4611686018427387904 : Int) ≤ (lo : Int)) = true := decide_eq_true (by omega)
          have hx := Lib.hid (hbad (by omega))
          replace h1 := Lib.hid h1
          replace h4 := Lib.hid h4
          subst h3
          clear hbad
          go_wp2_with (refine hmul.out.mono ?_; rintro e w' ⟨rfl, rfl⟩)
          exact hx.out
        · have g1 : ((hi : Int) == 0) = true := beq_iff_eq.2 (by omega)
          have g2 : ((hi : Int) != 0) = false := by rw [bne, g1]; rfl
          have g3 : decide ((4611686018427387904 : Int) ≤ (lo : Int)) = false := decide_eq_false (by omega)
          have g4 : decide ((4611686018427387904 : Int) ≤ (lo : Int) + (kk : Int)) = true := decide_eq_true (by omega)
          have hx := Lib.hid (hbad (by omega))
          have hlo3 : lo < 4611686018427387904 := by omega
          replace h1 := Lib.hid h1
          replace h4 := Lib.hid h4
          subst h3
          clear hbad
          go_wp2_with (refine hmul.out.mono ?_; rintro e w' ⟨rfl, rfl⟩)
          exact hx.out
        · have g1 : ((hi : Int) == 0) = true := beq_iff_eq.2 (by omega)
          have g2 : ((hi : Int) != 0) = false := by rw [bne, g1]; rfl
          have g3 : decide ((4611686018427387904 : Int) ≤ (lo : Int)) = false := decide_eq_false (by omega)
          have g4 : decide ((4611686018427387904 : Int) ≤ (lo : Int) + (kk : Int)) = false := decide_eq_false (by omega)
          have hlo3 : lo < 4611686018427387904 := by omega
          have hnew : numTo R (ds.take (k + 1)) (leastR R ws) = lo + kk := by rw [hsum.out, h4]
          have hnl : lo + kk < 4611686018427387904 := by omega
          have hwk := Lib.hid (show wrap64 ((k : Int) + 1) = (k : Int) + 1 by unfold wrap64; omega)
          replace hnew := Lib.hid hnew
          replace h1 := Lib.hid h1
          replace h4 := Lib.hid h4
          replace hnl := Lib.hid hnl
          subst h3
          clear hbad
          go_wp2_with (refine hmul.out.mono ?_; rintro e w' ⟨rfl, rfl⟩)
          exact ⟨⟨k + 1, by omega, rfl, by rw [hnew.out]; rfl, by rw [hnew.out]; exact hnl.out, trivial⟩, by simp [intOf]; omega⟩
      · obtain rfl : k = ds.length := by omega
        have hkI : decide ((ds.length : Int) < (ds.length : Int)) = false := decide_eq_false (by omega)
        have hkN : decide (ds.length < ds.length) = false := decide_eq_false (by omega)
        rw [List.take_length] at hlt62 ⊢
        have hx := Lib.hid (hyes.out _ hBw3.out hpb.out hlt62)
        clear s32
        go_wp2_with fail
        exact hx.out
end Go.Proofs.Ytikjpklbbjmioaa
