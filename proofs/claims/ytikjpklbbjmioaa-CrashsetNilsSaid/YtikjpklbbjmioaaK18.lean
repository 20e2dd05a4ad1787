/- CrashsetNils: the walk. -/
import Derived.Test.YtikjpklbbjmioaaK17
namespace Go.Proofs.Ytikjpklbbjmioaa
open Go.RowKit
attribute [local go_sem] Oper.semAt_some
set_option maxHeartbeats 4000000 in
set_option maxRecDepth 100000 in
theorem nils_walk (W : World) (n lim : Int) : Calls Try.prog 8 #[.int .u64 n, .int .i64 lim] W fun e w' => e = .returned (.bool true) ∧ Below W.heap.size W w' := by
  generalize hpost : (fun (e : Ending) w' => e = .returned (.bool true) ∧ Below W.heap.size W w') = post
  replace hpost := Lib.hid hpost
  have hB0 : Below W.heap.size W (W.alloc (.cells #[.bool false] 4)) := (Below.refl _ _).alloc (Nat.le_refl _) _
  have hH0 := Has.new W [Value.bool false] 4
  have hst : ∀ A, Has (W.alloc (.cells #[.bool false] 4)) W.heap.size [.bool false] 4 → Below (W.alloc (.cells #[.bool false] 4)).heap.size (W.alloc (.cells #[.bool false] 4)) A → Has A W.heap.size [.bool false] 4 := fun A h b => h.only (Only.of_below b) (Nat.not_le.2 h.lt)
  have kB : Below (W.alloc (.cells #[.bool false] 4)).heap.size (W.alloc (.cells #[.bool false] 4)) (W.alloc (.cells #[.bool false] 4)) := Below.refl _ _
  generalize hw0 : W.alloc (.cells #[.bool false] 4) = w0 at *
  replace hst := Lib.hid (hst · hH0)
  replace hB0 := Lib.hid hB0
  replace hH0 := Lib.hid hH0
  replace hw0 := Lib.hid hw0
  refine calls_of_marks Try.func8 rfl ?_
  simp only [Try.ntmps8, List.size_toArray, List.length_cons, List.length_nil, Nat.reduceAdd, Nat.reduceSub, Array.replicate_succ, Array.replicate_zero, List.push_toArray, List.append_toArray, List.nil_append, List.cons_append]
  go_wp2_with fail
  rw [hw0.out]
  refine (awake5_any _).mono ?_
  rintro e w1 ⟨rfl, b1⟩
  have k1 := kB.trans b1
  clear b1 kB
  go_wp2_with fail
  refine (nil_CCount _).mono ?_
  rintro e w2 ⟨rfl, b2⟩
  have k2 := k1.trans (b2.mono k1.size)
  clear b2 k1
  go_wp2_with fail
  refine (nil_CAt _ _).mono ?_
  rintro e w3 ⟨rfl, b3⟩
  have k3 := k2.trans (b3.mono k2.size)
  have k4 := k3.alloc k3.size (.cells #[Value.string ⟨#[]⟩] 44)
  clear b3 k2 k3
  go_wp2_with fail
  refine (nil_CChoice _ _).mono ?_
  rintro e w4 ⟨rfl, b4⟩
  have k5 := k4.trans (b4.mono k4.size)
  clear b4 k4
  go_wp2_with fail
  refine (nil_CDistinct _ _).mono ?_
  rintro e w5 ⟨rfl, b5⟩
  have k6 := k5.trans (b5.mono k5.size)
  clear b5 k5
  go_wp2_with fail
  refine (nil_CAll _ _).mono ?_
  rintro e w6 ⟨rfl, b6, hcl⟩
  have k7 := k6.trans (b6.mono k6.size)
  clear b6 k6
  have h6 := hst.out _ k7
  have B6 := hB0.out.trans (k7.mono hB0.out.size)
  have hWs : W.heap.size ≤ w6.heap.size := B6.size
  have hlt := h6.lt
  have c6 := h6.cell (o := 0) rfl
  have f6 := h6.free 0
  have hbl := World.block_lt_of_cell? _ _ hcl
  clear k7 hst
  go_wp2_with fail
  have hseq : ∀ Wx, Below w6.heap.size w6 Wx → SeqOwn Fence.wide 2 Try.prog 73 #[.pointer (some ⟨w5.heap.size, 0, none⟩), .pointer (some ⟨w5.heap.size + 1, 0, none⟩)] (fun x : Value => #[x]) (fun _ => False) (fun _ _ _ _ => False) (fun xs => xs = []) (fun _ => False) 0 Wx := fun Wx h =>
    nil_iter 2 _ _ Wx ((h.cell hbl).trans hcl)
  refine wp_rangeFunc_roll1 (gf := 73) (lb := #[.pointer (some ⟨w5.heap.size, 0, none⟩), .pointer (some ⟨w5.heap.size + 1, 0, none⟩)]) rfl (enters_of Try.func73 (by kernel_rfl) rfl) hseq (fun k hk => hk.elim) ?hGiv
    (fun c pre A => A.cell? ⟨W.heap.size, 0, none⟩ = some (.bool false) ∧ A.frozen? ⟨W.heap.size, 0, none⟩ = false ∧ Below W.heap.size W A)
    (fun _ _ _ _ => False) ?hI (fun _ _ _ _ _ _ h _ => h) (fun c _ => ⟨c6, f6, B6⟩) ?body ?done ?stop
  case hGiv =>
    intro c pre x A l o o' _ _ _ h
    exact h.elim
  case hI =>
    rintro c pre A E hc ⟨h1, h2, h3⟩ hr
    have hn : ¬ c W.heap.size := fun e => by have := hc _ e; omega
    exact ⟨hr.cell hn h1, hr.frozen hn h1 h2, hr.below hc hWs h3 (Nat.le_refl _)⟩
  case body =>
    intro l c pre x A hc _ hg _
    exact hg.elim
  case stop =>
    intro D c j pre A _ _ hS _ _
    exact hS.elim
  case done =>
    intro D c xs A hD hc hS h hK
    obtain ⟨h1, h2, h3⟩ := h
    have hDA := (Array.getElem?_eq_some_iff.1 hK).1
    clear hseq hS hc c6 f6 hcl hH0
    go_wp2_with fail
    refine (nil_CIndex _ _).mono ?_
    rintro e w7 ⟨rfl, b7⟩
    have k7 := b7
    clear b7
    go_wp2_with fail
    refine (awake5_any _).mono ?_
    rintro e w8 ⟨rfl, b8⟩
    have k8 := k7.trans (b8.mono k7.size)
    clear b8 k7
    go_wp2_with fail
    refine (nil_CPossible _ _).mono ?_
    rintro e w9 ⟨rfl, b9⟩
    have k9 := k8.trans (b9.mono k8.size)
    clear b9 k8
    have c9 : w9.cell? ⟨W.heap.size, 0, none⟩ = some (.bool false) := (k9.cell (World.block_lt_of_cell? _ _ h1)).trans h1
    have f9 : w9.frozen? ⟨W.heap.size, 0, none⟩ = false := (World.frozen?_of_block (k9.block _ (World.block_lt_of_cell? _ _ h1))).trans h2
    have K9 := (k9.block _ hDA).trans hK
    have B9 := h3.trans (k9.mono h3.size)
    clear h1 h2 h3 hK k9
    have hqc : (w9.setCell ⟨W.heap.size, 0, none⟩ (.bool true)).cell? ⟨W.heap.size, 0, none⟩ = some (.bool true) := World.cell?_setCell_same' _ _ _ (by rw [c9]; rfl)
    have KA : (w9.setCell ⟨W.heap.size, 0, none⟩ (.bool true)).heap[D]? = some (.deferred (some [])) := (heap_setCell_ne (by show D ≠ W.heap.size; omega)).trans K9
    have BA := B9.setCell (p := ⟨W.heap.size, 0, none⟩) (Nat.le_refl _) (.bool true)
    replace hqc := Lib.hid hqc
    replace KA := Lib.hid KA
    replace BA := Lib.hid BA
    replace B9 := Lib.hid B9
    replace K9 := Lib.hid K9
    go_wp2_with fail
    refine ⟨by simp, .inl ⟨_, _, rfl, run_takeDeferred KA.out, ?_⟩⟩
    have hqd := (World.cell?_of_block (w := w9.setCell ⟨W.heap.size, 0, none⟩ (.bool true)) (w' := (w9.setCell ⟨W.heap.size, 0, none⟩ (.bool true)).putObj D (.deferred none)) (a := ⟨W.heap.size, 0, none⟩) (World.putObj_heap_other (by show W.heap.size ≠ D; omega))).trans hqc.out
    refine ⟨.bool true, by simp [results, Try.results8, go_sem, hqd], ?_⟩
    rw [← hpost.out]
    exact ⟨rfl, BA.out.trans (belowK_b (w := w6) hWs _ D _ _ hD KA.out rfl rfl)⟩
end Go.Proofs.Ytikjpklbbjmioaa
