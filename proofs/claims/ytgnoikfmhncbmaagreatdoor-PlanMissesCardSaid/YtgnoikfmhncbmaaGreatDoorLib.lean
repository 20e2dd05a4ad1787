/- What the library's functions give here, in one place. -/
import Derived.Test.YtgnoikfmhncbmaaGreatDoorRows
import Derived.Test.YtgnoikfmhncbmaaGreatDoorR11
import Derived.Test.YtgnoikfmhncbmaaGreatDoorNum
import Derived.Test.YtgnoikfmhncbmaaGreatDoorShelf
import Derived.Lib.AppendIntMem
import Derived.Lib.AtoiErrMem
set_option linter.unusedVariables false
set_option linter.unusedSimpArgs false
namespace Go.Proofs.YtgnoikfmhncbmaaGreatDoor
open Go.RowKit Go.Lib
theorem var_below {P : Program} {n : String} {g : Nat} {x : Array Value} {w w' : World} (hg : P.globalNamed n = some g) (h : w.var? P n = some x) (hb : Below w.heap.size w w') : w'.var? P n = some x := by
  unfold World.var? at h ⊢
  rw [hg] at h ⊢
  simp only [Option.bind_some] at h ⊢
  have hlt : g < w.heap.size := by
    rcases Nat.lt_or_ge g w.heap.size with h' | h'
    · exact h'
    · rw [Array.getElem?_eq_none h'] at h; cases h
  rw [hb.block g hlt]
  exact h
theorem gPow : Tryz.prog.globalNamed "internal/strconv.uint64pow10" = some 0 := by kernel_rfl
/-- The library's tables and variables, as the program's start lays them. -/
structure Env (w : World) : Prop where
  u8 : Utf8Tabs 2 3 w
  ml : ∃ m : Int, w.cell? ⟨1, 0, none⟩ = some (.int .i64 m)
  pw : TabIs Tryz.prog w "internal/strconv.uint64pow10" .u64 pow10Tab
theorem Env.below {w w' : World} (h : Env w) (hb : Below w.heap.size w w') : Env w' := by
  obtain ⟨m, hm⟩ := h.ml
  exact ⟨Utf8Tabs_below h.u8 hb, ⟨m, cellk hb hm⟩, var_below gPow h.pw hb⟩

theorem validstr_any (s : ByteArray) (w : World) (hs : s.size ≤ 9223372036854775807) (hE : Env w) :
    Calls Tryz.prog 102 #[.string s] w fun e w' => e = .returned (.bool (validD s.data.toList)) ∧ Below w.heap.size w w' := Any.utf8_ValidString Tryz.laysValid s w hs hE.u8
theorem strcmp_any (a b : ByteArray) (w : World) : Calls Tryz.prog 71 #[.string a, .string b] w fun e w' => e = .returned (.int .i64 (compareBytes a.data.toList b.data.toList)) ∧ w' = w := Tryz.strings_Compare a b w
theorem cmpint_any (x y : Int) (w : World) : Calls Tryz.prog 68 #[.int .i64 x, .int .i64 y] w fun e w' => e = .returned (.int .i64 (compareInt x y)) ∧ w' = w := Tryz.cmp_Compare_int x y w
theorem itoa_any (n : Int) (h0 : -9223372036854775808 ≤ n) (h1 : n ≤ 9223372036854775807) (w : World) (hE : Env w) :
    Calls Tryz.prog 81 #[.int .i64 n, .int .i64 10] w fun e w' => e = .returned (.string ⟨(itoa n).toArray⟩) ∧ Below w.heap.size w w' :=
  (Tryz.strconv_FormatInt_10 n h0 h1 w hE.pw).mono fun e w' ⟨he, k, os, hw⟩ => ⟨he, hw ▸ below_grow _ w (Nat.le_refl _) k os⟩
theorem replall_any (s old new : ByteArray) (w : World) (hE : Env w) (hs : s.size < 4294967281) (h1 : 1 ≤ old.size) (hlen : s.size + countB s old * new.size ≤ 140737488355328) :
    Calls Tryz.prog 82 #[.string s, .string old, .string new] w fun e w' => e = .returned (.string ⟨(replaceAll s.data.toList old.data.toList new.data.toList).toArray⟩) ∧ Below w.heap.size w w' := by
  obtain ⟨m, hm⟩ := hE.ml
  exact Tryz.strings_ReplaceAll s old new m w hs hm h1 hlen
end Go.Proofs.YtgnoikfmhncbmaaGreatDoor
