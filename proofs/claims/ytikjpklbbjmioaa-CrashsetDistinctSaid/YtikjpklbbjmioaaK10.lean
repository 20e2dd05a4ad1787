/- The law's awake and play. -/
import Derived.Test.YtikjpklbbjmioaaK9
import Derived.Test.YtikjpklbbjmioaaA1
import Derived.OwnWalk
namespace Go.Proofs.Ytikjpklbbjmioaa
open Go.RowKit Go.Maps
variable {w : World} {F : Own} {o o' h T : Nat} {R : Dv} {L : Lay}

def aw1 : Dv := storeP (newP 2) 0 0 1
def aw2 : Dv := storeP aw1 0 64 3
def aw3 : Dv := storeP aw2 0 72 4
theorem awCnt : cntV aw3 = (6, true) := by kernel_rfl
theorem awOk : atOk aw3 4 = true := by kernel_rfl
def awB5 : List Nat := atB aw3 4
theorem awLen5 : awB5.length = 128 := by kernel_rfl
theorem awB50 : awB5[0]? = some 1 := by kernel_rfl
theorem awB564 : awB5[64]? = some 3 := by kernel_rfl
theorem awB572 : awB5[72]? = some 0 := by kernel_rfl
theorem awLt : ∀ x ∈ awB5, x < 256 := bytesL_256 _
def DSt (w : World) (L : Lay) (T : Nat) (R : Dv) (wx : World) : Prop := ∃ F, DevSt wx F 0 L T R ∧ Free F w.heap.size ∧ Below w.heap.size w wx
theorem DSt.below {wx w' : World} (hp : DSt w L T R wx) (hb : Below wx.heap.size wx w') : DSt w L T R w' := by
  obtain ⟨F, h1, h2, h3⟩ := hp; exact ⟨F, h1.below hb, h2, h3.trans (hb.mono h3.size)⟩
theorem DSt.step {T' : Nat} {R' : Dv} {wx : World} {f : Nat} {args : Array Value} {v : Value} (hp : DSt w L T R wx) (hc : ∀ F, DevSt wx F 0 L T R → Calls Try.prog f args wx (DPost wx F 0 L T' R' v)) :
    Calls Try.prog f args wx fun e w' => e = .returned v ∧ DSt w L T' R' w' := by
  obtain ⟨F, h1, h2, h3⟩ := hp
  exact (hc F h1).mono fun e w' ⟨F', he, d, hs⟩ => ⟨he, F', d, h2.step hs h3.size, h3.trans (h2.below hs h3.size)⟩
theorem DSt.quiet {wx : World} {f : Nat} {args : Array Value} {v : Value} (hp : DSt w L T R wx) (hc : ∀ F, DevSt wx F 0 L T R → Calls Try.prog f args wx fun e w' => e = .returned v ∧ wx = w') :
    Calls Try.prog f args wx fun e w' => e = .returned v ∧ wx = w' := by
  obtain ⟨F, h1, _⟩ := hp; exact hc F h1
theorem DSt.b {wx : World} (hp : DSt w L T R wx) : Below w.heap.size w wx := by obtain ⟨_, _, _, h3⟩ := hp; exact h3
set_option maxHeartbeats 8000000 in
set_option maxRecDepth 100000 in
theorem awake5_any (w : World) : Calls Try.prog 13 #[] w fun e w' => e = .returned (.bool true) ∧ Below w.heap.size w w' := by
  have hN : Calls Try.prog 14 #[.int .i64 2] w (fun e w' => ∃ L, e = .returned (.tuple #[.pointer (some ⟨L.g, 0, none⟩), .int .i64 0]) ∧ DSt w L 0 (newP 2) w') :=
    (new_any w noOwn 0 2 (by omega) (by omega)).mono fun e w' ⟨L, F', he, hd, hx, hb⟩ => ⟨L, he, F', hd, fun k hk => by rw [hx k hk]; rfl, hb⟩
  have hT : ∀ L wx, DSt w L 0 (newP 2) wx → Calls Try.prog 15 #[.pointer (some ⟨L.g, 0, none⟩), .int .i64 0] wx (fun e w' => e = .returned (.pointer (some ⟨L.tb 0, 0, none⟩)) ∧ wx = w') := fun L wx hp => hp.quiet fun F hd => thread_in (t := 0) hd (by omega)
  have hS1 : ∀ L wx, DSt w L 0 (newP 2) wx → Calls Try.prog 16 #[.pointer (some ⟨L.tb 0, 0, none⟩), .int .u64 0, .int .u64 1] wx (fun e w' => e = .returned (.tuple #[]) ∧ DSt w L 2 aw1 w') := fun L wx hp => hp.step fun F hd => store_any (t := 0) (off := 0) (v := 1) hd (by omega) (by omega) (by omega) (by omega)
  have hS2 : ∀ L wx, DSt w L 2 aw1 wx → Calls Try.prog 16 #[.pointer (some ⟨L.tb 0, 0, none⟩), .int .u64 64, .int .u64 3] wx (fun e w' => e = .returned (.tuple #[]) ∧ DSt w L 4 aw2 w') := fun L wx hp => hp.step fun F hd => store_any (t := 0) (off := 64) (v := 3) hd (by omega) (by omega) (by omega) (by omega)
  have hS3 : ∀ L wx, DSt w L 4 aw2 wx → Calls Try.prog 16 #[.pointer (some ⟨L.tb 0, 0, none⟩), .int .u64 72, .int .u64 4] wx (fun e w' => e = .returned (.tuple #[]) ∧ DSt w L 6 aw3 w') := fun L wx hp => hp.step fun F hd => store_any (t := 0) (off := 72) (v := 4) hd (by omega) (by omega) (by omega) (by omega)
  have hC : ∀ L wx, DSt w L 6 aw3 wx → Calls Try.prog 21 #[.pointer (some ⟨L.g, 0, none⟩)] wx (fun e w' => e = .returned (.tuple #[.int .u64 6, .bool true]) ∧ DSt w L 6 aw3 w') := fun L wx hp => by
    obtain ⟨F, h1, h2, h3⟩ := id hp
    have := ccount_any h1
    unfold TotPost at this
    rw [awCnt] at this
    exact this.mono fun e w' ⟨he, hb⟩ => ⟨he, hp.below hb⟩
  have hA : ∀ L wx, DSt w L 6 aw3 wx → Calls Try.prog 23 #[.pointer (some ⟨L.g, 0, none⟩), .int .u64 4] wx (fun e w' => e = .returned (.tuple #[.agg #[.string (strOf awB5)], .int .i64 0]) ∧ Below w.heap.size w w') := fun L wx hp => by
    obtain ⟨F, h1, h2, h3⟩ := id hp
    have := at_any h1 4 (by omega)
    unfold AtPost at this
    rw [if_pos awOk] at this
    exact this.mono fun e w' ⟨he, hb⟩ => ⟨he, (hp.below hb).b⟩
  have hI : ∀ wx, Calls Try.prog 24 #[.agg #[.string (strOf awB5)]] wx (fun e w' => ∃ b off c, e = .returned (.slice (some ⟨b, off, none⟩) 128 c) ∧ w'.cell? ⟨b, off, none⟩ = some (.int .u8 1) ∧ w'.cell? ⟨b, off + 64, none⟩ = some (.int .u8 3) ∧ w'.cell? ⟨b, off + 72, none⟩ = some (.int .u8 0) ∧ Below wx.heap.size wx w') := fun wx => by
    refine (ibytes_any wx awB5 awLt).mono ?_
    rintro e w' ⟨a, c, rfl, hr, hb⟩
    obtain ⟨b, off, c', he, hf⟩ := hr.cells (by rw [awLen5]; omega)
    simp only [Value.slice.injEq, true_and] at he
    obtain ⟨rfl, he2⟩ := he
    rw [awLen5]
    refine ⟨b, off, c, rfl, ?_, ?_, ?_, hb⟩
    · have := hf 0 _ (u8s_get _ _ _ awB50); rwa [Nat.add_zero] at this
    · exact hf 64 _ (u8s_get _ _ _ awB564)
    · exact hf 72 _ (u8s_get _ _ _ awB572)
  replace hN := Lib.hid hN
  replace hT := Lib.hid hT
  replace hS1 := Lib.hid hS1
  replace hS2 := Lib.hid hS2
  replace hS3 := Lib.hid hS3
  replace hC := Lib.hid hC
  replace hA := Lib.hid hA
  replace hI := Lib.hid hI
  go_enter Try.func13, Try.ntmps13
  go_wp2_with fail
  refine hN.out.mono ?_
  rintro e w1 ⟨L, rfl, p1⟩
  go_wp2_with fail
  refine (hT.out _ _ p1).mono ?_
  rintro e w' ⟨rfl, rfl⟩
  go_wp2_with fail
  refine (hS1.out _ _ p1).mono ?_
  rintro e w2 ⟨rfl, p2⟩
  clear p1 hN hT hS1
  go_wp2_with fail
  refine (hS2.out _ _ p2).mono ?_
  rintro e w3 ⟨rfl, p3⟩
  clear p2 hS2
  go_wp2_with fail
  refine (hS3.out _ _ p3).mono ?_
  rintro e w4 ⟨rfl, p4⟩
  clear p3 hS3
  go_wp2_with fail
  refine (hC.out _ _ p4).mono ?_
  rintro e w5 ⟨rfl, p5⟩
  clear p4 hC
  go_wp2_with fail
  refine (hA.out _ _ p5).mono ?_
  rintro e w6 ⟨rfl, b6⟩
  clear p5 hA
  generalize strOf awB5 = st at *
  have hq := Has.new w6 [Value.string st] 44
  have hc0 := hq.cell (o := 0) rfl
  have hI2 := Lib.hid (hI.out (w6.alloc (.cells #[.string st] 44)))
  have hb7 : Below w.heap.size w (w6.alloc (.cells #[.string st] 44)) := b6.trans (((Below.refl _ _).alloc (Nat.le_refl _) _).mono b6.size)
  clear hI hq
  replace hb7 := Lib.hid hb7
  go_wp2_with fail
  refine hI2.out.mono ?_
  rintro e w7 ⟨b, off, c, rfl, c0, c64, c72, b7⟩
  have hfin := hb7.out.trans (b7.mono hb7.out.size)
  clear b6 b7 hI2
  go_wp2_with fail
  go_ret
  exact ⟨rfl, hfin⟩
/-- Play of a run by the law's play. -/
theorem RunIn.play {lines : Int} {a : Option Addr} {c : Nat} {xs : List Evt} (hr : RunIn w lines a c xs) {wx : World} (hb : Below w.heap.size w wx) (n : Nat) (nI : Int) (hn : nI = (n : Int)) (hn2 : n ≤ 1000) :
    Calls Try.prog 61 #[.agg #[.int .i64 lines, .slice a xs.length c], .int .i64 nI] wx (PlayPost wx (2 * n) (playP (newP (nLines lines)) (xs.take n))) :=
  play_any wx lines hr.l xs hr.f a c (hr.r.kept hb) hr.m n nI hn hn2
def Play5Post (w : World) (R : Dv) (e : Ending) (w' : World) : Prop :=
  ∃ L h, e = .returned (.tuple #[.pointer (some ⟨L.g, 0, none⟩), .pointer (some ⟨h, 0, none⟩), .bool true]) ∧ Two w w.heap.size L h 60 R w'
set_option maxHeartbeats 1000000 in
theorem play5_any {W : World} {lines : Int} {a : Option Addr} {c : Nat} {xs : List Evt} (hr : RunIn W lines a c xs) {wx : World} (hb : Below W.heap.size W wx) :
    Calls Try.prog 28 #[.agg #[.int .i64 lines, .slice a xs.length c]] wx (Play5Post wx (playP (newP (nLines lines)) (xs.take 30))) := by
  generalize hpost : Play5Post wx (playP (newP (nLines lines)) (xs.take 30)) = post
  have hb1 : Below wx.heap.size wx (wx.alloc (.cells #[.int .i64 lines, .slice a xs.length c] 54)) := (Below.refl _ _).alloc (Nat.le_refl _) _
  have hpl := hr.play (hb.trans (hb1.mono hb.size)) 30 30 rfl (by omega)
  have c0 := (Has.new wx [.int .i64 lines, .slice a xs.length c] 54).cell (o := 0) rfl
  have c1 := (Has.new wx [.int .i64 lines, .slice a xs.length c] 54).cell (o := 1) rfl
  have hfin : ∀ L h w2 w3, Two (wx.alloc (.cells #[.int .i64 lines, .slice a xs.length c] 54)) (wx.alloc (.cells #[.int .i64 lines, .slice a xs.length c] 54)).heap.size L h (2 * 30) (playP (newP (nLines lines)) (xs.take 30)) w2 → Below w2.heap.size w2 w3 →
      post (.returned (.tuple #[.pointer (some ⟨L.g, 0, none⟩), .pointer (some ⟨h, 0, none⟩), .bool true])) w3 := fun L h w2 w3 t2 b3 => by
    rw [← hpost]
    exact ⟨L, h, rfl, (t2.below b3).lower hb1 hb1.size (Nat.le_refl _)⟩
  generalize playP (newP (nLines lines)) (xs.take 30) = R at *
  replace hpl := Lib.hid hpl
  replace hb1 := Lib.hid hb1
  replace hfin := Lib.hid hfin
  clear hr hb hpost
  go_enter Try.func28, Try.ntmps28
  go_wp2_with fail
  refine hpl.out.mono ?_
  rintro e w1 ⟨L, h, rfl, t1⟩
  clear hpl hb1 c0 c1
  go_wp2_with (refine (awake5_any _).mono ?_; rintro e w2 ⟨rfl, b2⟩; have hf := Lib.hid (hfin.out _ _ _ _ t1 b2); clear hfin t1 b2)
  go_ret3
  exact hf.out
end Go.Proofs.Ytikjpklbbjmioaa
