/- Walks: the law's value and back, number, known, Column.Fits, row.valid. -/
import Derived.Test.YtpjbcadelmjmfaaGreatDoorR0
import Derived.Test.YtpjbcadelmjmfaaGreatDoorCmp
namespace Go.Proofs.YtpjbcadelmjmfaaGreatDoor
open Go.RowKit Go.Lib

theorem value_any (ty : Nat) (nl : Bool) (n : Int) (tx : ByteArray) (b : Bool) (h : ty < 256) (w : World) :
    Calls Tryz.prog 25 #[.agg #[.int .u8 (ty : Int), .bool nl, .int .i64 n, .string tx, .bool b]] w (RPost w (.agg #[.int .i64 (ty : Int), .bool nl, .int .i64 n, .string tx, .bool b])) := by
  have hE := Has.new w [.int .u8 (ty : Int), .bool nl, .int .i64 n, .string tx, .bool b] 50
  have e0 := hE.cell (o := 0) rfl
  have e1 := hE.cell (o := 1) rfl
  have e2 := hE.cell (o := 2) rfl
  have e3 := hE.cell (o := 3) rfl
  have e4 := hE.cell (o := 4) rfl
  go_enter Tryz.func25, Tryz.ntmps25
  go_wp2_with fail
  refine bodyPost_ret (v := .agg #[.int .i64 (ty : Int), .bool nl, .int .i64 n, .string tx, .bool b]) (by simp [results, Tryz.results25, go_sem]) rfl ?_
  exact ⟨rfl, ((Below.refl _ _).alloc (Nat.le_refl _) _).alloc (by simp) _⟩
theorem back_any (ty : Nat) (nl : Bool) (n : Int) (tx : ByteArray) (b : Bool) (h : ty < 256) (w : World) :
    Calls Tryz.prog 29 #[.agg #[.int .i64 (ty : Int), .bool nl, .int .i64 n, .string tx, .bool b]] w (RPost w (.agg #[.int .u8 (ty : Int), .bool nl, .int .i64 n, .string tx, .bool b])) := by
  have hE := Has.new w [.int .i64 (ty : Int), .bool nl, .int .i64 n, .string tx, .bool b] 54
  have e0 := hE.cell (o := 0) rfl
  have e1 := hE.cell (o := 1) rfl
  have e2 := hE.cell (o := 2) rfl
  have e3 := hE.cell (o := 3) rfl
  have e4 := hE.cell (o := 4) rfl
  go_enter Tryz.func29, Tryz.ntmps29
  go_wp2_with fail
  refine bodyPost_ret (v := .agg #[.int .u8 (ty : Int), .bool nl, .int .i64 n, .string tx, .bool b]) (by simp [results, Tryz.results29, go_sem]) rfl ?_
  exact ⟨rfl, ((Below.refl _ _).alloc (Nat.le_refl _) _).alloc (by simp) _⟩
theorem number_any (b : Bool) (w : World) : Calls Tryz.prog 53 #[.bool b] w fun e w' => e = .returned (.int .i64 (b2i b)) ∧ w = w' := by
  cases b
  · go_enter Tryz.func53, Tryz.ntmps53
    go_wp2
    go_ret
    exact ⟨rfl, rfl⟩
  · go_enter Tryz.func53, Tryz.ntmps53
    go_wp2
    go_ret
    exact ⟨rfl, rfl⟩
def knownB (ty : Nat) : Bool := decide (1 ≤ ty) && decide (ty ≤ 3)
theorem known_any (ty : Nat) (w : World) : Calls Tryz.prog 65 #[.int .u8 (ty : Int)] w fun e w' => e = .returned (.bool (knownB ty)) ∧ w = w' := by
  obtain ⟨c1, g1⟩ : ∃ c, ((ty : Int) == 1) = c := ⟨_, rfl⟩
  obtain ⟨c2, g2⟩ : ∃ c, ((ty : Int) == 2) = c := ⟨_, rfl⟩
  obtain ⟨c3, g3⟩ : ∃ c, ((ty : Int) == 3) = c := ⟨_, rfl⟩
  have hk : knownB ty = (c1 || (c2 || c3)) := by
    rw [← g1, ← g2, ← g3, Bool.eq_iff_iff]
    unfold knownB
    simp
    omega
  rw [hk]
  clear hk
  cases c1 <;> cases c2 <;> cases c3
  all_goals
    go_enter Tryz.func65, Tryz.ntmps65
    go_wp2_with fail
    go_ret
    exact ⟨rfl, rfl⟩
end Go.Proofs.YtpjbcadelmjmfaaGreatDoor
