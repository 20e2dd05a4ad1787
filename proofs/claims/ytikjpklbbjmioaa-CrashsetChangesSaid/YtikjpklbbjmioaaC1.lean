/- maps.Clone of a thread's notes. -/
import Derived.Test.YtikjpklbbjmioaaD16
import Derived.Shelf.SlMaps.Clone
namespace Go.Proofs.Ytikjpklbbjmioaa
open Go.RowKit Go.Maps
variable {w : World} {F : Own} {o T : Nat} {L : Lay} {R : Dv}

theorem NoteV.clone {b T n : Nat} {f : Nat → Option Nat} (h : NoteV w b T n f) : ∃ es cl, w.heap[b]? = some (.map es cl) ∧ ∀ w1 : World, ∀ b1, w1.heap[b1]? = some (.map es cl) → NoteV w1 b1 T n f := by
  obtain ⟨D, ⟨es, cl, hb, r⟩, h2⟩ := h
  exact ⟨es, cl, hb, fun w1 b1 h1 => ⟨D, ⟨es, cl, h1, r⟩, h2⟩⟩
def MapPost (w : World) (es : Array MapEntry) (cl : Nat) (e : Ending) (w' : World) : Prop := e = .returned (.map (some w.heap.size)) ∧ w' = w.alloc (.map es cl)
set_option maxHeartbeats 2000000 in
set_option maxRecDepth 100000 in
theorem mclone_any (w : World) (b : Nat) (es : Array MapEntry) (cl : Nat) (hb : w.heap[b]? = some (.map es cl)) : Calls Try.prog 83 #[.map (some b)] w (MapPost w es cl) := by
  generalize hpost : MapPost w es cl = post
  have hq := fun w => run_eql_map_nil_sl (P := Try.prog) w 95 _ _ (some b) Try.underlying95
  have hfin : post (.returned (.map (some w.heap.size))) (w.alloc (.map es cl)) := by rw [← hpost]; exact ⟨rfl, rfl⟩
  replace hfin := Lib.hid hfin
  replace hpost := Lib.hid hpost
  go_enter Try.func83, Try.ntmps83
  go_wp2_with fail
  rw [run_callFunc_extern Try.func105 (by kernel_rfl) (by kernel_rfl) (by kernel_rfl) (e := Extern.MapsClone.clone) (by kernel_rfl), run_maps_clone_sl w 95 hb]
  simp only [Result.andThen]
  rw [Oper.upon_value]
  go_wp2_with fail
  rw [run_typeAssert_map_sl _ 95 20 _ _ _ Try.underlying95]
  simp only [Result.andThen]
  rw [Oper.upon_value]
  go_wp2_with fail
  first | exact hfin.out | (go_ret; exact hfin.out)
end Go.Proofs.Ytikjpklbbjmioaa
