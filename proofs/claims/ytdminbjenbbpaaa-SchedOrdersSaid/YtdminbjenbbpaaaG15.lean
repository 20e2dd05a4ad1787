/- Interleavings: the closure and its two boxes. -/
import Derived.Test.YtdminbjenbbpaaaG14
namespace Go.Proofs.Ytdminbjenbbpaaa
open Go.RowKit
theorem Rd.of_ownB {w : World} {B : Nat} {e : TypeId} {size : Nat} {v : Value} {n : Nat} {xs : List Value} (h : w.ownsRow B e size v n xs) : Rd w v n xs := by
  refine Rd.of_own (e := e) (size := size) ?_
  obtain ⟨h1, h2⟩ := h
  refine ⟨h1, ?_⟩
  rcases h2 with h | ⟨g, cap, cur, hv, _, h⟩
  · exact .inl h
  · exact .inr ⟨g, cap, cur, hv, Nat.zero_le _, h⟩
theorem clone_any (l : List Int) (v : Value) (w : World) (hv : Rd w v l.length (l.map (Value.int .i64))) (hl : l.length ≤ 1000000) :
    Calls Try.prog 43 #[v] w fun e w' => ∃ v', e = .returned v' ∧ Rd w' v' l.length (l.map (Value.int .i64)) ∧ Below w.heap.size w w' := by
  by_cases h0 : 0 < l.length
  · obtain ⟨b, off, cap, rfl, hc⟩ := hv.cells h0
    refine (Try.slices_Clone_int b off l.length cap l w (Nat.le_refl _) (by omega) (fun j hj => hc _ _ (by rw [List.getElem?_map, List.getElem?_eq_getElem hj, List.getD_eq_getElem?_getD, List.getElem?_eq_getElem hj]; rfl))).mono ?_
    rintro e w' ⟨v', rfl, h1, _, h2⟩
    rw [List.take_length] at h1
    exact ⟨v', rfl, Rd.of_ownB h1, h2⟩
  · have hnil : l = [] := List.length_eq_zero_iff.1 (by omega)
    subst hnil
    obtain ⟨a, cap, rfl, _⟩ := hv
    cases a with
    | none =>
      refine (Try.slices_Clone_int_nil 0 cap w).mono ?_
      rintro e w' ⟨rfl, rfl⟩
      exact ⟨_, rfl, Rd.nil _, Below.refl _ _⟩
    | some a =>
      refine (Try.slices_Clone_int_zero a cap w).mono ?_
      rintro e w' ⟨v', rfl, h1, _, h2⟩
      exact ⟨v', rfl, Rd.of_ownB h1, h2⟩
theorem clone_own (l : List Int) (v : Value) (w : World) (hv : Rd w v l.length (l.map (Value.int .i64))) (hl : l.length ≤ 1000000) :
    Calls Try.prog 43 #[v] w fun e w' => ∃ v', e = .returned v' ∧ w'.ownsRow w.heap.size 3 1 v' l.length (l.map (Value.int .i64)) ∧ Below w.heap.size w w' := by
  by_cases h0 : 0 < l.length
  · obtain ⟨b, off, cap, rfl, hc⟩ := hv.cells h0
    refine (Try.slices_Clone_int b off l.length cap l w (Nat.le_refl _) (by omega) (fun j hj => hc _ _ (by rw [List.getElem?_map, List.getElem?_eq_getElem hj, List.getD_eq_getElem?_getD, List.getElem?_eq_getElem hj]; rfl))).mono ?_
    rintro e w' ⟨v', rfl, h1, _, h2⟩
    rw [List.take_length] at h1
    exact ⟨v', rfl, h1, h2⟩
  · have hnil : l = [] := List.length_eq_zero_iff.1 (by omega)
    subst hnil
    obtain ⟨a, cap, rfl, _⟩ := hv
    cases a with
    | none =>
      refine (Try.slices_Clone_int_nil 0 cap w).mono ?_
      rintro e w' ⟨rfl, rfl⟩
      exact ⟨_, rfl, ⟨rfl, .inl ⟨rfl, rfl⟩⟩, Below.refl _ _⟩
    | some a =>
      refine (Try.slices_Clone_int_zero a cap w).mono ?_
      rintro e w' ⟨v', rfl, h1, _, h2⟩
      exact ⟨v', rfl, h1, h2⟩
/-- What Interleavings leaves: the closure over the limit's box and the sizes' box. -/
def InterPost (w : World) (l : List Int) (lim : Int) : Ending → World → Prop := fun e w' =>
  ∃ b1 b2 v, e = .returned (.func (.func 44) #[] #[.pointer (some ⟨b1, 0, none⟩), .pointer (some ⟨b2, 0, none⟩)]) ∧ w'.cell? ⟨b1, 0, none⟩ = some (.int .i64 lim) ∧ w'.cell? ⟨b2, 0, none⟩ = some v ∧
    Rd w' v l.length (l.map (Value.int .i64)) ∧ Below w.heap.size w w' ∧ w.heap.size ≤ b1
set_option maxHeartbeats 1000000 in
theorem inter_any (l : List Int) (v : Value) (lim : Int) (w : World) (hv : Rd w v l.length (l.map (Value.int .i64))) (hl : l.length ≤ 1000000) :
    Calls Try.prog 30 #[v, .int .i64 lim] w (InterPost w l lim) := by
  have hcl := Lib.hid (fun w' (h : Below w.heap.size w w') => clone_any l v w' (hv.kept h) hl)
  go_enter Try.func30, Try.ntmps30
  go_wp2_with fail
  have hB1 : Below w.heap.size w (w.alloc (.cells #[.int .i64 lim] 3)) := (Below.refl _ _).alloc (Nat.le_refl _) _
  refine (hcl.out _ hB1).mono ?_
  rintro e w2 ⟨v2, rfl, hr2, hB2⟩
  have c1 : w2.cell? ⟨w.heap.size, 0, none⟩ = some (.int .i64 lim) := (hB2.cell (by simp)).trans ((Has.new w [.int .i64 lim] 3).cell (o := 0) rfl)
  have hB3 := hB1.trans (hB2.mono hB1.size)
  have hB4 := hB3.alloc hB3.size
  obtain ⟨a2, cp2, rfl, hr2'⟩ := hr2
  have hr2 : Rd w2 (.slice a2 l.length cp2) l.length (l.map (Value.int .i64)) := ⟨a2, cp2, rfl, hr2'⟩
  clear hr2'
  have hw2 : w.heap.size < w2.heap.size := by have := hB2.size; simp at this; omega
  replace hr2 := Lib.hid hr2
  replace hB4 := Lib.hid hB4
  clear hB1 hB2 hcl
  go_wp2_with fail
  go_ret
  have hA : Below w2.heap.size w2 (w2.alloc (.cells #[.slice a2 l.length cp2] 23)) := (Below.refl _ _).alloc (Nat.le_refl _) _
  exact ⟨w.heap.size, w2.heap.size, _, rfl, (hA.cell hw2).trans c1, (Has.new w2 [.slice a2 l.length cp2] 23).cell (o := 0) rfl, hr2.out.kept hA, hB4.out _, Nat.le_refl _⟩
end Go.Proofs.Ytdminbjenbbpaaa
