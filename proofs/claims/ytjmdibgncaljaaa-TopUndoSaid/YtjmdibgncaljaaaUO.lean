/- Programs whose stores go to a device of ten lines: valid, execute, Run. -/
import Derived.Test.YtjmdibgncaljaaaUN
namespace Go.Proofs.Ytjmdibgncaljaaa
open Go.RowKit
structure FitU (x : In) : Prop where
  k : 1 ≤ x.k ∧ x.k ≤ 3
  off : x.off < 4096
  al : x.off % 8 = 0
  v : x.v < 18446744073709551616
variable {w : World} {F : Dev.Own} {T : Nat} {L : Dev.Lay} {R : Dev.Dv}
set_option maxHeartbeats 2000000 in
set_option maxRecDepth 100000 in
theorem pvalid2 (a : Option Addr) (c : Nat) (l : List In) (hf : ∀ x ∈ l, FitU x) (hll : l.length ≤ 1000) (w : World) (hr : Rd w (.slice a l.length c) l.length (inCells l)) :
    Calls Try.prog 77 #[.slice a l.length c] w fun e w' => e = .returned (.bool true) ∧ Below w.heap.size w w' := by
  go_enter Try.func77, Try.ntmps77
  go_wp2_with fail
  go_loopw [7] (fun i wr => ∃ (k : Nat), k ≤ l.length ∧ i = .int .i64 (k : Int) ∧ Below w.heap.size w wr) (fun i _ => l.length - (intOf i).toNat)
  case atStart => exact ⟨0, Nat.zero_le _, rfl, Below.refl _ _⟩
  case round =>
    obtain ⟨k, hk, rfl, hB⟩ := hrel
    by_cases hlt : k < l.length
    · have hlI : (k : Int) < (l.length : Int) := by omega
      obtain ⟨bl, ol, cl, ea, fa⟩ := (hr.kept hB).cells (by omega)
      simp only [Value.slice.injEq, true_and] at ea
      obtain ⟨rfl, hcp⟩ := ea
      replace hcp := Lib.hid hcp
      have hat := Dev.get_of_lt (⟨0, 0, 0⟩ : In) hlt
      have hfa := hf _ (List.mem_of_getElem? hat)
      generalize l.getD k ⟨0, 0, 0⟩ = x at *
      have c0 : wr.cell? ⟨bl, ol + k * 3, none⟩ = some (.int .u8 (x.k : Int)) := fa _ _ (inCells_get l k x hat 0 _ rfl)
      have c1 : wr.cell? ⟨bl, ol + k * 3 + 1, none⟩ = some (.int .u64 (x.off : Int)) := fa _ _ (inCells_get l k x hat 1 _ rfl)
      have c2 : wr.cell? ⟨bl, ol + k * 3 + 2, none⟩ = some (.int .u64 (x.v : Int)) := fa _ _ (inCells_get l k x hat 2 _ rfl)
      have hk1 := hfa.k
      have d1 : decide ((x.k : Int) < 1) = false := decide_eq_false (by omega)
      have d2 : decide ((3 : Int) < (x.k : Int)) = false := decide_eq_false (by omega)
      have d1' : decide (x.k < 1) = false := decide_eq_false (by omega)
      have d2' : decide (3 < x.k) = false := decide_eq_false (by omega)
      have hB1 : Below w.heap.size w (wr.alloc (.cells #[.int .u8 (x.k : Int), .int .u64 (x.off : Int), .int .u64 (x.v : Int)] 85)) := hB.alloc hB.size _
      replace hat := Lib.hid hat
      clear fa
      go_wp2_with fail
      exact ⟨⟨k + 1, by omega, by go_num, hB1⟩, by simp [intOf]; omega⟩
    · have hlI : ¬ (k : Int) < (l.length : Int) := by omega
      go_wp2_with fail
      go_ret
      exact ⟨rfl, hB⟩
def XPostU (w : World) (F : Dev.Own) (L : Dev.Lay) (T : Nat) (R : Dev.Dv) (e : Ending) (w' : World) : Prop := ∃ F', e = .returned (.tuple #[]) ∧ Dev.DevSt w' F' 0 L T R ∧ Dev.Dstep w F 0 w' F'
set_option maxHeartbeats 2000000 in
set_option maxRecDepth 100000 in
theorem iexec2 (h : Dev.DevSt w F 0 L T R) (hT : T + 2 ≤ 100000) (x : In) (hx : FitU x) :
    Calls Try.prog 78 #[.agg #[.int .u8 (x.k : Int), .int .u64 (x.off : Int), .int .u64 (x.v : Int)], .iface 67 (.pointer (some ⟨L.tb 0, 0, none⟩))] w (XPostU w F L (T + 2) (devI R x)) := by
  obtain ⟨k, off, v⟩ := x
  obtain ⟨hk, ho, hal, hv⟩ := hx
  simp only at hk ho hal hv ⊢
  have hE := Has.new w [.int .u8 (k : Int), .int .u64 (off : Int), .int .u64 (v : Int)] 85
  have hB0 : Below w.heap.size w (w.alloc (.cells [.int .u8 (k : Int), .int .u64 (off : Int), .int .u64 (v : Int)].toArray 85)) := (Below.refl _ _).alloc (Nat.le_refl _) _
  have hD0 := h.trim.below hB0
  have hS0 : Dev.Dstep w F 0 (w.alloc (.cells [.int .u8 (k : Int), .int .u64 (off : Int), .int .u64 (v : Int)].toArray 85)) (F.trim w) := ⟨F.trim_ext w, (Dev.Dstep.below hB0 : Dev.Dstep w F 0 _ F).only⟩
  have h3 : k = 1 ∨ k = 2 ∨ k = 3 := by omega
  clear h hE
  rcases h3 with rfl | rfl | rfl
  · have hgo := Dev.store_any hD0 (t := 0) (off := off) (v := v) (by omega) (by decide) (by omega) hv
    have hd : devI R ⟨1, off, v⟩ = Dev.storeP R 0 off v := rfl
    rw [hd]
    have hfin : ∀ w' F', Dev.DevSt w' F' 0 L (T + 2) (Dev.storeP R 0 off v) → Dev.Dstep (w.alloc (.cells [.int .u8 ((1 : Nat) : Int), .int .u64 (off : Int), .int .u64 (v : Int)].toArray 85)) (F.trim w) 0 w' F' → XPostU w F L (T + 2) (Dev.storeP R 0 off v) (.returned (.tuple #[])) w' := fun w' F' g1 g2 => ⟨F', rfl, g1, hS0.trans g2⟩
    have hms := fun w => m_store ⟨L.tb 0, 0, none⟩ w
    replace hgo := Lib.hid hgo
    replace hd := Lib.hid hd
    replace hfin := Lib.hid hfin
    clear hD0 hS0
    go_enter Try.func78, Try.ntmps78
    go_wp2_with fail
    refine hgo.out.mono ?_
    rintro e w' ⟨F', rfl, g1, g2⟩
    have hf := Lib.hid (hfin.out w' F' g1 g2)
    go_wp2_with fail
    exact bodyPost_end (results_none rfl _ _ _) rfl hf.out
  · have hgo := Dev.flush_any hD0 (t := 0) (off := off) (by omega) (by decide) (by omega)
    have hd : devI R ⟨2, off, v⟩ = Dev.flushP R 0 off := rfl
    rw [hd]
    have hfin : ∀ w' F', Dev.DevSt w' F' 0 L (T + 2) (Dev.flushP R 0 off) → Dev.Dstep (w.alloc (.cells [.int .u8 ((2 : Nat) : Int), .int .u64 (off : Int), .int .u64 (v : Int)].toArray 85)) (F.trim w) 0 w' F' → XPostU w F L (T + 2) (Dev.flushP R 0 off) (.returned (.tuple #[])) w' := fun w' F' g1 g2 => ⟨F', rfl, g1, hS0.trans g2⟩
    have hms := fun w => m_flush ⟨L.tb 0, 0, none⟩ w
    replace hgo := Lib.hid hgo
    replace hd := Lib.hid hd
    replace hfin := Lib.hid hfin
    clear hD0 hS0
    go_enter Try.func78, Try.ntmps78
    go_wp2_with fail
    refine hgo.out.mono ?_
    rintro e w' ⟨F', rfl, g1, g2⟩
    have hf := Lib.hid (hfin.out w' F' g1 g2)
    go_wp2_with fail
    exact bodyPost_end (results_none rfl _ _ _) rfl hf.out
  · have hgo := Dev.fence_any hD0 (t := 0) (by omega) (by decide)
    have hd : devI R ⟨3, off, v⟩ = Dev.fenceP R 0 := rfl
    rw [hd]
    have hfin : ∀ w' F', Dev.DevSt w' F' 0 L (T + 1) (Dev.fenceP R 0) → Dev.Dstep (w.alloc (.cells [.int .u8 ((3 : Nat) : Int), .int .u64 (off : Int), .int .u64 (v : Int)].toArray 85)) (F.trim w) 0 w' F' → XPostU w F L (T + 2) (Dev.fenceP R 0) (.returned (.tuple #[])) w' := fun w' F' g1 g2 => ⟨F', rfl, g1.up (by omega) (by omega), hS0.trans g2⟩
    have hms := fun w => m_fence ⟨L.tb 0, 0, none⟩ w
    replace hgo := Lib.hid hgo
    replace hd := Lib.hid hd
    replace hfin := Lib.hid hfin
    clear hD0 hS0
    go_enter Try.func78, Try.ntmps78
    go_wp2_with fail
    refine hgo.out.mono ?_
    rintro e w' ⟨F', rfl, g1, g2⟩
    have hf := Lib.hid (hfin.out w' F' g1 g2)
    go_wp2_with fail
    exact bodyPost_end (results_none rfl _ _ _) rfl hf.out
def RunPostU (w : World) (F : Dev.Own) (L : Dev.Lay) (T : Nat) (R : Dev.Dv) (er : Int) (K : Prop) (e : Ending) (w' : World) : Prop := ∃ F', e = .returned (.int .i64 er) ∧ Dev.DevSt w' F' 0 L T R ∧ Dev.Dstep w F 0 w' F' ∧ K
def OkToU (T : Nat) (R : Dev.Dv) (l : List In) (k : Nat) : Prop := ∀ j, j ≤ k → ((l.take j).foldl devI R).Ok (T + 2 * j)
set_option maxHeartbeats 2000000 in
set_option maxRecDepth 100000 in
theorem prun2 (h : Dev.DevSt w F 0 L T R) (a : Option Addr) (c : Nat) (l : List In) (hf : ∀ x ∈ l, FitU x) (hll : l.length ≤ 1000) (hT : T + 2 * l.length ≤ 100000) (hr : Rd w (.slice a l.length c) l.length (inCells l))
    (hsep : ∀ k, Value.ownBlock (.slice a l.length c) = some k → F k = none) :
    Calls Try.prog 32 #[.slice a l.length c, .iface 67 (.pointer (some ⟨L.tb 0, 0, none⟩))] w (RunPostU w F L (T + 2 * l.length) (l.foldl devI R) (((l.foldl devI R).errs.getD 0 0 : Nat) : Int) (OkToU T R l l.length)) := by
  generalize hpost : RunPostU w F L (T + 2 * l.length) (l.foldl devI R) (((l.foldl devI R).errs.getD 0 0 : Nat) : Int) (OkToU T R l l.length) = post
  have hval := pvalid2 a c l hf hll w hr
  have hms := fun w => m_err ⟨L.tb 0, 0, none⟩ w
  replace hpost := Lib.hid hpost
  replace hval := Lib.hid hval
  replace h := Lib.hid h
  go_enter Try.func32, Try.ntmps32
  go_wp2_with fail
  refine hval.out.mono ?_
  rintro e w1 ⟨rfl, hB1⟩
  have hr1 := hr.kept hB1
  have h0 : Dev.DevSt w1 F 0 L (T + 2 * 0) ((l.take 0).foldl devI R) := h.out.below hB1
  have hs0 : Dev.Dstep w F 0 w1 F := Dev.Dstep.below hB1
  have hK0 : Hid (OkToU T R l 0) := Lib.hid (fun j hj => (show j = 0 by omega) ▸ h0.ok)
  replace h0 := Lib.hid h0
  clear hval
  go_wp2_with fail
  go_loopw [16] (fun i wr => ∃ (k : Nat) (F' : Dev.Own), k ≤ l.length ∧ i = .int .i64 (k : Int) ∧ Dev.DevSt wr F' 0 L (T + 2 * k) ((l.take k).foldl devI R) ∧ Dev.Dstep w F 0 wr F' ∧ Hid (OkToU T R l k)) (fun i _ => l.length - (intOf i).toNat)
  case atStart => exact ⟨0, F, Nat.zero_le _, rfl, h0.out, hs0, hK0⟩
  case round =>
    obtain ⟨k, F', hk, rfl, hD, hS, hK⟩ := hrel
    clear h0 hs0
    by_cases hlt : k < l.length
    · have hlI : (k : Int) < (l.length : Int) := by omega
      obtain ⟨bl, ol, cl, ea, fa⟩ := (hr.only hS.only (fun k hk ⟨r, s⟩ => by rw [hsep k hk] at s; cases s)).cells (by omega)
      simp only [Value.slice.injEq, true_and] at ea
      obtain ⟨rfl, hcp⟩ := ea
      replace hcp := Lib.hid hcp
      have hat := Dev.get_of_lt (⟨0, 0, 0⟩ : In) hlt
      have hfa := hf _ (List.mem_of_getElem? hat)
      have htk : (l.take (k + 1)).foldl devI R = devI ((l.take k).foldl devI R) (l.getD k ⟨0, 0, 0⟩) := by
        rw [take_getD l k ⟨0, 0, 0⟩ hlt, List.foldl_append]; rfl
      generalize l.getD k ⟨0, 0, 0⟩ = x at *
      have c0 : wr.cell? ⟨bl, ol + k * 3, none⟩ = some (.int .u8 (x.k : Int)) := fa _ _ (inCells_get l k x hat 0 _ rfl)
      have c1 : wr.cell? ⟨bl, ol + k * 3 + 1, none⟩ = some (.int .u64 (x.off : Int)) := fa _ _ (inCells_get l k x hat 1 _ rfl)
      have c2 : wr.cell? ⟨bl, ol + k * 3 + 2, none⟩ = some (.int .u64 (x.v : Int)) := fa _ _ (inCells_get l k x hat 2 _ rfl)
      obtain ⟨wb, hwb⟩ : ∃ wb, wb = wr.alloc (.cells #[.int .u8 (x.k : Int), .int .u64 (x.off : Int), .int .u64 (x.v : Int)] 85) := ⟨_, rfl⟩
      have hBw : Below wr.heap.size wr wb := by rw [hwb]; exact (Below.refl _ _).alloc (Nat.le_refl _) _
      have hex := iexec2 (hD.below hBw) (by omega) x hfa
      rw [← htk] at hex
      have hS1 : Dev.Dstep w F 0 wb F' := hS.trans (Dev.Dstep.below hBw)
      replace hex := Lib.hid hex
      replace hwb := Lib.hid hwb
      replace hat := Lib.hid hat
      replace htk := Lib.hid htk
      replace h := h
      clear fa hD hS hBw
      go_wp2_with fail
      rw [show wr.alloc (.cells #[.int .u8 (x.k : Int), .int .u64 (x.off : Int), .int .u64 (x.v : Int)] 85) = wb from hwb.out.symm]
      refine hex.out.mono ?_
      rintro e w2 ⟨F2, rfl, hD2, hS2⟩
      have hK2 : Hid (OkToU T R l (k + 1)) := Lib.hid (fun j hj => by
        rcases Nat.lt_or_ge j (k + 1) with h1 | h1
        · exact hK.out j (by omega)
        · obtain rfl : j = k + 1 := by omega
          exact hD2.ok)
      have hrel' := Lib.hid (show Dev.DevSt w2 F2 0 L (T + 2 * (k + 1)) ((l.take (k + 1)).foldl devI R) ∧ Dev.Dstep w F 0 w2 F2 from ⟨hD2, hS1.trans hS2⟩)
      clear hD2 hS1 hS2 hex
      go_wp2_with fail
      exact ⟨⟨k + 1, F2, by omega, by go_num, hrel'.out.1, hrel'.out.2, hK2⟩, by simp [intOf]; omega⟩
    · obtain rfl : k = l.length := by omega
      have hlI : ¬ (l.length : Int) < (l.length : Int) := by omega
      rw [List.take_length] at hD
      have he := Dev.err_any hD (t := 0) (by decide)
      have hfin : post (.returned (.int .i64 (((l.foldl devI R).errs.getD 0 0 : Nat) : Int))) wr := by rw [← hpost.out]; exact ⟨F', rfl, hD, hS, hK.out⟩
      replace hfin := Lib.hid hfin
      generalize (((l.foldl devI R).errs.getD 0 0 : Nat) : Int) = er at *
      replace he := Lib.hid he
      clear hD hS
      go_wp2_with fail
      refine he.out.mono ?_
      rintro e w' ⟨rfl, rfl⟩
      go_wp2_with fail
      first | exact hfin.out | (go_ret; exact hfin.out)
end Go.Proofs.Ytjmdibgncaljaaa
