/- Cuts: the closure over the boxes of its arguments. -/
import Derived.Test.YtjmdibgncaljaaaO38
namespace Go.Proofs.Ytjmdibgncaljaaa
open Go.RowKit
theorem call_cuts (w : World) (g : Nat) (n : Int) : Calls Try.prog 13 #[.pointer (some ⟨g, 0, none⟩), .int .i64 n] w fun e w' => e = .returned (.func (.func 53) #[] #[.pointer (some ⟨w.heap.size, 0, none⟩), .pointer (some ⟨w.heap.size + 1, 0, none⟩)]) ∧ Below w.heap.size w w' ∧
    w'.cell? ⟨w.heap.size, 0, none⟩ = some (.pointer (some ⟨g, 0, none⟩)) ∧ w'.cell? ⟨w.heap.size + 1, 0, none⟩ = some (.int .i64 n) := by
  have B1 := (Below.refl w.heap.size w).alloc (Nat.le_refl _) (.cells #[Value.pointer (some ⟨g, 0, none⟩)] 32)
  have B := Lib.hid (B1.alloc B1.size (.cells #[Value.int .i64 n] 3))
  have h1 := (Has.new w [Value.pointer (some ⟨g, 0, none⟩)] 32).alloc (.cells #[Value.int .i64 n] 3)
  have h2 := Has.new (w.alloc (.cells #[Value.pointer (some ⟨g, 0, none⟩)] 32)) [Value.int .i64 n] 3
  simp only [World.size_alloc] at h2
  have c1 := Lib.hid (h1.cell (o := 0) rfl)
  have c2 := Lib.hid (h2.cell (o := 0) rfl)
  clear B1 h1 h2
  go_enter Try.func13, Try.ntmps13
  go_wp2_with fail
  go_ret
  exact ⟨by simp, B.out, c1.out, c2.out⟩
end Go.Proofs.Ytjmdibgncaljaaa
