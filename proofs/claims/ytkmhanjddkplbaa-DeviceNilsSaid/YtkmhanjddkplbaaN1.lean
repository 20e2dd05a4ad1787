/- DeviceNils: nil receivers; the walk. -/
import Derived.Test.YtkmhanjddkplbaaG5
namespace Go.Proofs.Ytkmhanjddkplbaa
open Go.RowKit Go.Maps

theorem nil_Arm (w : World) (x : Int) : Calls Try.prog 24 #[.pointer none, .int .i64 x] w fun e w' => e = .returned (.tuple #[]) ∧ w = w' := by
  generalize hp : (fun (e : Ending) (w' : World) => e = .returned (.tuple #[]) ∧ w = w') = post
  have hfin : post (.returned (.tuple #[])) w := by rw [← hp]; exact ⟨rfl, rfl⟩
  replace hfin := Lib.hid hfin
  clear hp
  go_enter Try.func24, Try.ntmps24
  go_wp2_with fail
  exact bodyPost_end (results_none rfl _ _ _) rfl hfin.out
theorem nil_Store (w : World) (x y : Int) : Calls Try.prog 36 #[.pointer none, .int .u64 x, .int .u64 y] w fun e w' => e = .returned (.tuple #[]) ∧ w = w' := by
  generalize hp : (fun (e : Ending) (w' : World) => e = .returned (.tuple #[]) ∧ w = w') = post
  have hfin : post (.returned (.tuple #[])) w := by rw [← hp]; exact ⟨rfl, rfl⟩
  replace hfin := Lib.hid hfin
  clear hp
  go_enter Try.func36, Try.ntmps36
  go_wp2_with fail
  exact bodyPost_end (results_none rfl _ _ _) rfl hfin.out
theorem nil_Flush (w : World) (x : Int) : Calls Try.prog 37 #[.pointer none, .int .u64 x] w fun e w' => e = .returned (.tuple #[]) ∧ w = w' := by
  generalize hp : (fun (e : Ending) (w' : World) => e = .returned (.tuple #[]) ∧ w = w') = post
  have hfin : post (.returned (.tuple #[])) w := by rw [← hp]; exact ⟨rfl, rfl⟩
  replace hfin := Lib.hid hfin
  clear hp
  go_enter Try.func37, Try.ntmps37
  go_wp2_with fail
  exact bodyPost_end (results_none rfl _ _ _) rfl hfin.out
theorem nil_Fence (w : World)  : Calls Try.prog 38 #[.pointer none] w fun e w' => e = .returned (.tuple #[]) ∧ w = w' := by
  generalize hp : (fun (e : Ending) (w' : World) => e = .returned (.tuple #[]) ∧ w = w') = post
  have hfin : post (.returned (.tuple #[])) w := by rw [← hp]; exact ⟨rfl, rfl⟩
  replace hfin := Lib.hid hfin
  clear hp
  go_enter Try.func38, Try.ntmps38
  go_wp2_with fail
  exact bodyPost_end (results_none rfl _ _ _) rfl hfin.out
theorem nil_Lines (w : World)  : Calls Try.prog 22 #[.pointer none] w fun e w' => e = .returned (.int .i64 0) ∧ w = w' := by
  go_enter Try.func22, Try.ntmps22
  go_wp2_with fail
  go_ret
  exact ⟨rfl, rfl⟩
theorem nil_Size (w : World)  : Calls Try.prog 35 #[.pointer none] w fun e w' => e = .returned (.int .u64 0) ∧ w = w' := by
  go_enter Try.func35, Try.ntmps35
  go_wp2_with fail
  refine (nil_Lines _).mono ?_
  rintro e w' ⟨rfl, rfl⟩
  go_wp2_with fail
  go_ret
  exact ⟨rfl, rfl⟩
theorem nil_Thread (w : World) (x : Int) : Calls Try.prog 17 #[.pointer none, .int .i64 x] w fun e w' => e = .returned (.pointer none) ∧ w = w' := by
  go_enter Try.func17, Try.ntmps17
  go_wp2_with fail
  go_ret
  exact ⟨rfl, rfl⟩
theorem nil_Off (w : World)  : Calls Try.prog 27 #[.pointer none] w fun e w' => e = .returned (.bool false) ∧ w = w' := by
  go_enter Try.func27, Try.ntmps27
  go_wp2_with fail
  go_ret
  exact ⟨rfl, rfl⟩
theorem nil_Executed (w : World)  : Calls Try.prog 26 #[.pointer none] w fun e w' => e = .returned (.int .u64 0) ∧ w = w' := by
  go_enter Try.func26, Try.ntmps26
  go_wp2_with fail
  go_ret
  exact ⟨rfl, rfl⟩
theorem nil_WriteBack (w : World) (x y : Int) : Calls Try.prog 43 #[.pointer none, .int .i64 x, .int .i64 y] w fun e w' => e = .returned (.bool false) ∧ w = w' := by
  go_enter Try.func43, Try.ntmps43
  go_wp2_with fail
  go_ret
  exact ⟨rfl, rfl⟩
theorem nil_Dirty (w : World)  : Calls Try.prog 42 #[.pointer none] w fun e w' => e = .returned (.slice none 0 0) ∧ w = w' := by
  go_enter Try.func42, Try.ntmps42
  go_wp2_with fail
  go_ret
  exact ⟨rfl, rfl⟩
theorem nil_History (w : World) (x : Int) : Calls Try.prog 34 #[.pointer none, .int .i64 x] w fun e w' => e = .returned (.slice none 0 0) ∧ w = w' := by
  go_enter Try.func34, Try.ntmps34
  go_wp2_with fail
  go_ret
  exact ⟨rfl, rfl⟩
theorem nil_Current (w : World)  : Calls Try.prog 28 #[.pointer none] w fun e w' => e = .returned (.slice none 0 0) ∧ w = w' := by
  go_enter Try.func28, Try.ntmps28
  go_wp2_with fail
  go_ret
  exact ⟨rfl, rfl⟩
theorem nil_Persisted (w : World)  : Calls Try.prog 20 #[.pointer none] w fun e w' => e = .returned (.slice none 0 0) ∧ w = w' := by
  go_enter Try.func20, Try.ntmps20
  go_wp2_with fail
  go_ret
  exact ⟨rfl, rfl⟩
theorem nil_Image (w : World) (v : Value) : Calls Try.prog 31 #[.pointer none, v] w fun e w' => e = .returned (.slice none 0 0) ∧ w = w' := by
  go_enter Try.func31, Try.ntmps31
  go_wp2_with fail
  go_ret
  exact ⟨rfl, rfl⟩
theorem nil_Crash (w : World) (v : Value) : Calls Try.prog 46 #[.pointer none, v] w fun e w' => e = .returned (.pointer none) ∧ w = w' := by
  go_enter Try.func46, Try.ntmps46
  go_wp2_with fail
  go_ret
  exact ⟨rfl, rfl⟩
theorem nil_Copy (w : World)  : Calls Try.prog 47 #[.pointer none] w fun e w' => e = .returned (.pointer none) ∧ w = w' := by
  go_enter Try.func47, Try.ntmps47
  go_wp2_with fail
  go_ret
  exact ⟨rfl, rfl⟩
theorem nil_Load (w : World) (x : Int) : Calls Try.prog 49 #[.pointer none, .int .u64 x] w fun e w' => e = .returned (.int .u64 0) ∧ w = w' := by
  go_enter Try.func49, Try.ntmps49
  go_wp2_with fail
  go_ret
  exact ⟨rfl, rfl⟩
theorem nil_CAS (w : World) (x y z : Int) : Calls Try.prog 50 #[.pointer none, .int .u64 x, .int .u64 y, .int .u64 z] w fun e w' => e = .returned (.bool false) ∧ w = w' := by
  go_enter Try.func50, Try.ntmps50
  go_wp2_with fail
  go_ret
  exact ⟨rfl, rfl⟩
theorem nil_TSize (w : World)  : Calls Try.prog 51 #[.pointer none] w fun e w' => e = .returned (.int .u64 0) ∧ w = w' := by
  go_enter Try.func51, Try.ntmps51
  go_wp2_with fail
  go_ret
  exact ⟨rfl, rfl⟩
theorem nil_ID (w : World)  : Calls Try.prog 52 #[.pointer none] w fun e w' => e = .returned (.int .i64 0) ∧ w = w' := by
  go_enter Try.func52, Try.ntmps52
  go_wp2_with fail
  go_ret
  exact ⟨rfl, rfl⟩
theorem nil_Err (w : World)  : Calls Try.prog 29 #[.pointer none] w fun e w' => e = .returned (.int .i64 1) ∧ w = w' := by
  go_enter Try.func29, Try.ntmps29
  go_wp2_with fail
  go_ret
  exact ⟨rfl, rfl⟩
set_option maxHeartbeats 8000000 in
set_option maxRecDepth 100000 in
theorem nils_walk (W : World) (n : Int) (a : Option Addr) (len cap : Nat) : Calls Try.prog 11 #[.int .i64 n, .slice a len cap] W fun e w' => e = .returned (.bool true) ∧ Below W.heap.size W w' := by
  go_enter Try.func11, Try.ntmps11
  go_wp2_with fail
  refine (awake_any _).mono ?_
  rintro e w1 ⟨rfl, b1⟩
  go_wp2_with fail
  refine (nil_Arm _ _).mono ?_
  rintro e w' ⟨rfl, rfl⟩
  go_wp2_with fail
  refine (nil_Store _ _ _).mono ?_
  rintro e w' ⟨rfl, rfl⟩
  go_wp2_with fail
  refine (nil_Flush _ _).mono ?_
  rintro e w' ⟨rfl, rfl⟩
  go_wp2_with fail
  refine (nil_Fence _).mono ?_
  rintro e w' ⟨rfl, rfl⟩
  go_wp2_with fail
  refine (nil_Lines _).mono ?_
  rintro e w' ⟨rfl, rfl⟩
  go_wp2_with fail
  refine (nil_Size _).mono ?_
  rintro e w' ⟨rfl, rfl⟩
  go_wp2_with fail
  refine (nil_Thread _ _).mono ?_
  rintro e w' ⟨rfl, rfl⟩
  go_wp2_with fail
  refine (nil_Off _).mono ?_
  rintro e w' ⟨rfl, rfl⟩
  go_wp2_with fail
  refine (nil_Executed _).mono ?_
  rintro e w' ⟨rfl, rfl⟩
  go_wp2_with fail
  refine (nil_WriteBack _ _ _).mono ?_
  rintro e w' ⟨rfl, rfl⟩
  go_wp2_with fail
  refine (nil_Dirty _).mono ?_
  rintro e w' ⟨rfl, rfl⟩
  go_wp2_with fail
  refine (nil_History _ _).mono ?_
  rintro e w' ⟨rfl, rfl⟩
  go_wp2_with fail
  refine (nil_Current _).mono ?_
  rintro e w' ⟨rfl, rfl⟩
  go_wp2_with fail
  refine (nil_Persisted _).mono ?_
  rintro e w' ⟨rfl, rfl⟩
  go_wp2_with fail
  refine (nil_Image _ _).mono ?_
  rintro e w' ⟨rfl, rfl⟩
  go_wp2_with fail
  refine (nil_Crash _ _).mono ?_
  rintro e w' ⟨rfl, rfl⟩
  go_wp2_with fail
  refine (nil_Copy _).mono ?_
  rintro e w' ⟨rfl, rfl⟩
  go_wp2_with fail
  refine (nil_Load _ _).mono ?_
  rintro e w' ⟨rfl, rfl⟩
  go_wp2_with fail
  refine (nil_CAS _ _ _ _).mono ?_
  rintro e w' ⟨rfl, rfl⟩
  go_wp2_with fail
  refine (nil_TSize _).mono ?_
  rintro e w' ⟨rfl, rfl⟩
  go_wp2_with fail
  refine (nil_ID _).mono ?_
  rintro e w' ⟨rfl, rfl⟩
  go_wp2_with fail
  refine (nil_Err _).mono ?_
  rintro e w' ⟨rfl, rfl⟩
  go_wp2_with fail
  go_ret
  exact ⟨rfl, b1⟩
end Go.Proofs.Ytkmhanjddkplbaa
