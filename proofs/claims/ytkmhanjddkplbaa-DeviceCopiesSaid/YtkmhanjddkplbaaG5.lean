/- DevicePlays: the walk. -/
import Derived.Test.YtkmhanjddkplbaaG4
import Derived.Test.YtkmhanjddkplbaaA1
namespace Go.Proofs.Ytkmhanjddkplbaa
open Go.RowKit Go.Maps
variable {w : World} {F : Own} {o o' h T : Nat} {R : Dv} {L : Lay}

/-- Play of a run, at a world in which nothing that was has changed. -/
theorem RunIn.play {lines : Int} {a : Option Addr} {c : Nat} {xs : List Evt} (hr : RunIn w lines a c xs) {wx : World} (hb : Below w.heap.size w wx) (n : Nat) (nI : Int) (hn : nI = (n : Int)) (hn2 : n ≤ 1000) :
    Calls Try.prog 30 #[.agg #[.int .i64 lines, .slice a xs.length c], .int .i64 nI] wx (PlayPost wx (2 * n) (playP (newP (nLines lines)) (xs.take n))) :=
  play_any wx lines hr.l xs hr.f a c (hr.r.kept hb) hr.m n nI hn hn2
theorem plays_walk (W : World) (lines : Int) (a : Option Addr) (c : Nat) (xs : List Evt) (hr : RunIn W lines a c xs) :
    Calls Try.prog 5 #[.agg #[.int .i64 lines, .slice a xs.length c]] W fun e w' => e = .returned (.bool true) ∧ Below W.heap.size W w' := by
  have hb1 : Below W.heap.size W (W.alloc (.cells #[.int .i64 lines, .slice a xs.length c] 40)) := (Below.refl _ _).alloc (Nat.le_refl _) _
  have hpl := hr.play hb1 60 60 rfl (by omega)
  generalize playP (newP (nLines lines)) (xs.take 60) = R at *
  have c0 := (Has.new W [.int .i64 lines, .slice a xs.length c] 40).cell (o := 0) rfl
  have c1 := (Has.new W [.int .i64 lines, .slice a xs.length c] 40).cell (o := 1) rfl
  replace hpl := Lib.hid hpl
  replace hb1 := Lib.hid hb1
  clear hr
  go_enter Try.func5, Try.ntmps5
  go_wp2_with fail
  refine hpl.out.mono ?_
  rintro e w1 ⟨L, h, rfl, t1⟩
  have b1 := hb1.out.trans (t1.b.mono hb1.out.size)
  clear t1 hpl hb1 c0 c1
  go_wp2_with fail
  refine (awake_any _).mono ?_
  rintro e w2 ⟨rfl, b2⟩
  have b3 := b1.trans (b2.mono b1.size)
  clear b1 b2
  go_wp2_with fail
  go_ret
  exact ⟨rfl, b3⟩
end Go.Proofs.Ytkmhanjddkplbaa
