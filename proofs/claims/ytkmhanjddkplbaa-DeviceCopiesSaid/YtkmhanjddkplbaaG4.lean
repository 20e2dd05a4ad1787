/- The law's awake. -/
import Derived.Test.YtkmhanjddkplbaaG3
namespace Go.Proofs.Ytkmhanjddkplbaa
open Go.RowKit Go.Maps
variable {w : World} {F : Own} {o o' h T : Nat} {R : Dv} {L : Lay}

def awR1 : Dv := storeP (newP 2) 0 0 1
def awR2 : Dv := storeP awR1 0 8 2
def awR3 : Dv := storeP awR2 0 64 3
def awB : List Nat := bytesL (imageW awR3 [1])
theorem awLen : awB.length = 128 := by kernel_rfl
theorem aw0 : awB[0]? = some 1 := by kernel_rfl
theorem aw8 : awB[8]? = some 0 := by kernel_rfl
theorem aw64 : awB[64]? = some 3 := by kernel_rfl
theorem awV : loadV awR3 8 = 2 := by kernel_rfl
def DSt (w : World) (L : Lay) (T : Nat) (R : Dv) (wx : World) : Prop := ∃ F, DevSt wx F 0 L T R ∧ Free F w.heap.size ∧ Below w.heap.size w wx
theorem DSt.below {wx w' : World} (hp : DSt w L T R wx) (hb : Below wx.heap.size wx w') : DSt w L T R w' := by
  obtain ⟨F, h1, h2, h3⟩ := hp; exact ⟨F, h1.below hb, h2, h3.trans (hb.mono h3.size)⟩
theorem DSt.step {T' : Nat} {R' : Dv} {wx : World} {f : Nat} {args : Array Value} {v : Value} (hp : DSt w L T R wx) (hc : ∀ F, DevSt wx F 0 L T R → Calls Try.prog f args wx (DPost wx F 0 L T' R' v)) :
    Calls Try.prog f args wx fun e w' => e = .returned v ∧ DSt w L T' R' w' := by
  obtain ⟨F, h1, h2, h3⟩ := hp
  exact (hc F h1).mono fun e w' ⟨F', he, d, hs⟩ => ⟨he, F', d, h2.step hs h3.size, h3.trans (h2.below hs h3.size)⟩
theorem DSt.quiet {wx : World} {f : Nat} {args : Array Value} {v : Value} (hp : DSt w L T R wx) (hc : ∀ F, DevSt wx F 0 L T R → Calls Try.prog f args wx fun e w' => e = .returned v ∧ wx = w') :
    Calls Try.prog f args wx fun e w' => e = .returned v ∧ wx = w' := by
  obtain ⟨F, h1, _⟩ := hp; exact hc F h1
def AwP (B : World) (L : Lay) (T : Nat) (R : Dv) (e : Ending) (w' : World) : Prop := ∃ b, e = .returned (.slice (some ⟨b, 0, none⟩) 128 128) ∧ w'.cell? ⟨b, 0, none⟩ = some (.int .u8 1) ∧ w'.cell? ⟨b, 8, none⟩ = some (.int .u8 0) ∧ w'.cell? ⟨b, 64, none⟩ = some (.int .u8 3) ∧ DSt B L T R w'
set_option maxHeartbeats 8000000 in
set_option maxRecDepth 100000 in
theorem awake_any (w : World) : Calls Try.prog 12 #[] w fun e w' => e = .returned (.bool true) ∧ Below w.heap.size w w' := by
  have hN : Calls Try.prog 14 #[.int .i64 2] w (fun e w' => ∃ L, e = .returned (.tuple #[.pointer (some ⟨L.g, 0, none⟩), .int .i64 0]) ∧ DSt w L 0 (newP 2) w') :=
    (new_any w noOwn 0 2 (by omega) (by omega)).mono fun e w' ⟨L, F', he, hd, hx, hb⟩ => ⟨L, he, F', hd, fun k hk => by rw [hx k hk]; rfl, hb⟩
  have hT : ∀ L wx, DSt w L 0 (newP 2) wx → Calls Try.prog 17 #[.pointer (some ⟨L.g, 0, none⟩), .int .i64 0] wx (fun e w' => e = .returned (.pointer (some ⟨L.tb 0, 0, none⟩)) ∧ wx = w') := fun L wx hp => hp.quiet fun F hd => thread_in (t := 0) hd (by omega)
  have hS1 : ∀ L wx, DSt w L 0 (newP 2) wx → Calls Try.prog 36 #[.pointer (some ⟨L.tb 0, 0, none⟩), .int .u64 0, .int .u64 1] wx (fun e w' => e = .returned (.tuple #[]) ∧ DSt w L 2 awR1 w') := fun L wx hp => hp.step fun F hd => store_any (t := 0) (off := 0) (v := 1) hd (by omega) (by omega) (by omega) (by omega)
  have hS2 : ∀ L wx, DSt w L 2 awR1 wx → Calls Try.prog 36 #[.pointer (some ⟨L.tb 0, 0, none⟩), .int .u64 8, .int .u64 2] wx (fun e w' => e = .returned (.tuple #[]) ∧ DSt w L 4 awR2 w') := fun L wx hp => hp.step fun F hd => store_any (t := 0) (off := 8) (v := 2) hd (by omega) (by omega) (by omega) (by omega)
  have hS3 : ∀ L wx, DSt w L 4 awR2 wx → Calls Try.prog 36 #[.pointer (some ⟨L.tb 0, 0, none⟩), .int .u64 64, .int .u64 3] wx (fun e w' => e = .returned (.tuple #[]) ∧ DSt w L 6 awR3 w') := fun L wx hp => hp.step fun F hd => store_any (t := 0) (off := 64) (v := 3) hd (by omega) (by omega) (by omega) (by omega)
  have hI : ∀ L wx b, DSt w L 6 awR3 wx → wx.cell? ⟨b, 0, none⟩ = some (.int .u8 1) → Calls Try.prog 31 #[.pointer (some ⟨L.g, 0, none⟩), .slice (some ⟨b, 0, none⟩) 1 1] wx (AwP w L 6 awR3) := fun L wx b hp hc => by
    obtain ⟨F, h1, h2, h3⟩ := hp
    refine (image_any h1 (some ⟨b, 0, none⟩) 1 [1] ⟨_, 1, rfl, .inr ⟨b, 0, rfl, fun j u hj => ?_⟩⟩ (by simp) (by simp)).mono fun e w' ⟨b', he, hh, hb, _⟩ => ?_
    · match j, hj with
      | 0, hj => simp [u8s] at hj; subst hj; exact hc
      | j + 1, hj => simp [u8s] at hj
    · have ha : bytesL (imageW awR3 [1]) = awB := rfl
      rw [ha, awLen] at he
      rw [ha] at hh
      refine ⟨b', he, ?_, ?_, ?_, DSt.below ⟨F, h1, h2, h3⟩ hb⟩
      · exact hh.cell (by unfold u8s; rw [List.getElem?_map, aw0]; rfl)
      · exact hh.cell (by unfold u8s; rw [List.getElem?_map, aw8]; rfl)
      · exact hh.cell (by unfold u8s; rw [List.getElem?_map, aw64]; rfl)
  have hL : ∀ L wx, DSt w L 6 awR3 wx → Calls Try.prog 49 #[.pointer (some ⟨L.tb 0, 0, none⟩), .int .u64 8] wx (fun e w' => e = .returned (.int .u64 2) ∧ Below w.heap.size w w') := fun L wx hp => by
    have := hp.step (fun F hd => load_any (t := 0) (off := 8) hd (by omega) (by omega))
    rw [awV] at this
    exact this.mono fun e w' ⟨he, F, _, _, hb⟩ => ⟨he, hb⟩
  replace hN := Lib.hid hN
  replace hT := Lib.hid hT
  replace hS1 := Lib.hid hS1
  replace hS2 := Lib.hid hS2
  replace hS3 := Lib.hid hS3
  replace hI := Lib.hid hI
  replace hL := Lib.hid hL
  go_enter Try.func12, Try.ntmps12
  go_wp2_with fail
  refine hN.out.mono ?_
  rintro e w1 ⟨L, rfl, p1⟩
  go_wp2_with fail
  refine (hT.out _ _ p1).mono ?_
  rintro e w' ⟨rfl, rfl⟩
  go_wp2_with fail
  refine (hS1.out _ _ p1).mono ?_
  rintro e w2 ⟨rfl, p2⟩
  clear p1 hN hT hS1
  go_wp2_with fail
  refine (hS2.out _ _ p2).mono ?_
  rintro e w3 ⟨rfl, p3⟩
  clear p2 hS2
  go_wp2_with fail
  refine (hS3.out _ _ p3).mono ?_
  rintro e w4 ⟨rfl, p4⟩
  clear p3 hS3
  go_wp2_with fail
  refine (hI.out L _ _ (p4.below ((Below.refl _ _).alloc (Nat.le_refl _) _)) ?_).mono ?_
  · exact (Has.new w4 [.int .u8 1] 5).cell (o := 0) rfl
  rintro e w5 ⟨b, rfl, c0, c8, c64, p5⟩
  clear p4 hI
  go_wp2_with fail
  refine (hL.out L _ p5).mono ?_
  rintro e w6 ⟨rfl, b6⟩
  clear c0 c8 c64
  go_wp2_with fail
  go_ret
  exact ⟨rfl, b6⟩
end Go.Proofs.Ytkmhanjddkplbaa
