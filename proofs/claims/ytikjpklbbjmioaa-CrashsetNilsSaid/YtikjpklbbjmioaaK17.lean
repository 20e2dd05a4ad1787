/- CrashsetNils: the functions at a nil device. -/
import Derived.Test.YtikjpklbbjmioaaK10
import Derived.Test.YtikjpklbbjmioaaIt
namespace Go.Proofs.Ytikjpklbbjmioaa
open Go.RowKit
attribute [local go_sem] Oper.semAt_some
theorem nil_CCount (w : World) : Calls Try.prog 21 #[.pointer none] w fun e w' => e = .returned (.tuple #[.int .u64 0, .bool true]) ∧ Below w.heap.size w w' := by
  go_enter Try.func21, Try.ntmps21
  go_wp2_with fail
  go_ret2
  exact ⟨rfl, Below.refl _ _⟩
theorem nil_CAt (w : World) (n : Int) : Calls Try.prog 23 #[.pointer none, .int .u64 n] w fun e w' => e = .returned (.tuple #[.agg #[.string ⟨#[]⟩], .int .i64 1]) ∧ Below w.heap.size w w' := by
  have hI := Has.new w [Value.string ⟨#[]⟩] 44
  have c0 := hI.cell (o := 0) rfl
  have f0 := hI.free 0
  have B := (Below.refl w.heap.size w).alloc (Nat.le_refl _) (.cells #[Value.string ⟨#[]⟩] 44)
  replace hI := Lib.hid hI
  replace B := Lib.hid B
  go_enter Try.func23, Try.ntmps23
  go_wp2_with fail
  exact bodyPost_ret (v := .tuple #[.agg #[.string ⟨#[]⟩], .int .i64 1]) (by simp [results, Try.results23, go_sem, c0]) rfl ⟨rfl, B.out⟩
theorem nil_CChoice (w : World) (n : Int) : Calls Try.prog 17 #[.pointer none, .int .u64 n] w fun e w' => e = .returned (.tuple #[.slice none 0 0, .int .i64 1]) ∧ Below w.heap.size w w' := by
  go_enter Try.func17, Try.ntmps17
  go_wp2_with fail
  go_ret2
  exact ⟨rfl, Below.refl _ _⟩
theorem nil_CDistinct (w : World) (n : Int) : Calls Try.prog 34 #[.pointer none, .int .i64 n] w fun e w' => e = .returned (.tuple #[.int .i64 0, .int .i64 1]) ∧ Below w.heap.size w w' := by
  go_enter Try.func34, Try.ntmps34
  go_wp2_with fail
  go_ret2
  exact ⟨rfl, Below.refl _ _⟩
theorem nil_CIndex (w : World) (s : ByteArray) : Calls Try.prog 26 #[.pointer none, .agg #[.string s]] w fun e w' => e = .returned (.tuple #[.int .u64 0, .bool false]) ∧ Below w.heap.size w w' := by
  have B := Lib.hid ((Below.refl w.heap.size w).alloc (Nat.le_refl _) (.cells #[Value.string s] 44))
  go_enter Try.func26, Try.ntmps26
  go_wp2_with fail
  go_ret2
  exact ⟨rfl, B.out⟩
theorem nil_CPossible (w : World) (s : ByteArray) : Calls Try.prog 27 #[.pointer none, .agg #[.string s]] w fun e w' => e = .returned (.bool false) ∧ Below w.heap.size w w' := by
  have B := Lib.hid ((Below.refl w.heap.size w).alloc (Nat.le_refl _) (.cells #[Value.string s] 44))
  go_enter Try.func27, Try.ntmps27
  go_wp2_with fail
  go_ret
  exact ⟨rfl, B.out⟩
/-- All of a nil device: the closure over the boxes of its arguments. -/
theorem nil_CAll (w : World) (n : Int) : Calls Try.prog 31 #[.pointer none, .int .i64 n] w fun e w' => e = .returned (.func (.func 73) #[] #[.pointer (some ⟨w.heap.size, 0, none⟩), .pointer (some ⟨w.heap.size + 1, 0, none⟩)]) ∧ Below w.heap.size w w' ∧
    w'.cell? ⟨w.heap.size, 0, none⟩ = some (.pointer none) := by
  have B1 := (Below.refl w.heap.size w).alloc (Nat.le_refl _) (.cells #[Value.pointer none] 24)
  have B := Lib.hid (B1.alloc B1.size (.cells #[Value.int .i64 n] 3))
  have h1 := (Has.new w [Value.pointer none] 24).alloc (.cells #[Value.int .i64 n] 3)
  have c1 := Lib.hid (h1.cell (o := 0) rfl)
  clear B1 h1
  go_enter Try.func31, Try.ntmps31
  go_wp2_with fail
  go_ret
  exact ⟨by simp, B.out, c1.out⟩
theorem nil_iter (n : Nat) (b1 b2 : Nat) (W : World) (h1 : W.cell? ⟨b1, 0, none⟩ = some (.pointer none)) :
    SeqOwn Fence.wide n Try.prog 73 #[.pointer (some ⟨b1, 0, none⟩), .pointer (some ⟨b2, 0, none⟩)] (fun x : Value => #[x]) (fun _ => False) (fun _ _ _ _ => False) (fun xs => xs = []) (fun _ => False) 0 W := by
  intro lp J Jx hJ hJx hY h0
  generalize hpost : ItDone (fun xs : List Value => xs = []) (fun _ => False) J Jx W = post
  replace hpost := Lib.hid hpost
  refine callsIn_of_wp Try.func73 rfl trivial ?_ rfl
  simp only [Try.ntmps73, List.size_toArray, List.length_cons, List.length_nil, Nat.reduceAdd, Nat.reduceSub, Array.replicate_succ, Array.replicate_zero, List.push_toArray, List.append_toArray, List.nil_append, List.cons_append]
  replace hY := Lib.hid hY
  replace hJ := Lib.hid hJ
  replace hJx := Lib.hid hJx
  replace h0 := Lib.hid h0
  gi_wp2
  refine bodyPost_ret (results_none rfl _ _ _) rfl ?_
  rw [← hpost.out]
  exact ⟨⟨_, rfl⟩, .inl ⟨fun _ => False, [], fun _ h => h.elim, rfl, h0.out _ (fun _ h => h.elim)⟩⟩
end Go.Proofs.Ytikjpklbbjmioaa
