/- The reference's device: Dirty. -/
import Derived.Test.YtikjpklbbjmioaaE7
import Derived.Test.YtikjpklbbjmioaaD14
namespace Go.Proofs.Ytikjpklbbjmioaa
open Go.RowKit Go.Maps
variable {w : World} {F : Own} {o h T : Nat} {R : Dv}

/-- A slice that grew behind a world. -/
structure Grow (wq wr : World) (E : TypeId) (a : Option Addr) (n c : Nat) (xs : List Value) : Prop where
  own : wr.ownsRow 0 E 1 (.slice a n c) n xs
  b : Below wq.heap.size wq wr
  fr : ∀ j, Value.ownBlock (.slice a n c) = some j → wq.heap.size ≤ j
theorem Grow.alloc {wq wr : World} {E : TypeId} {a : Option Addr} {n c : Nat} {xs : List Value} (h : Grow wq wr E a n c xs) (x : Obj) : Grow wq (wr.alloc x) E a n c xs := ⟨h.own.alloc _, h.b.alloc h.b.size _, h.fr⟩
theorem Grow.below {wq wr w' : World} {E : TypeId} {a : Option Addr} {n c : Nat} {xs : List Value} (h : Grow wq wr E a n c xs) (hb : Below wr.heap.size wr w') : Grow wq w' E a n c xs :=
  ⟨ownsRow_only h.own (Only.of_below hb) (by intro k hk; exact Nat.not_le.2 (ownsRow_lt h.own hk)), h.b.trans (hb.mono h.b.size), h.fr⟩
theorem Grow.drew {wq wr : World} {E : TypeId} {a : Option Addr} {n c : Nat} {xs : List Value} (h : Grow wq wr E a n c xs) : Grow wq wr.drew E a n c xs := h.below (below_drewN (Below.refl _ _) 1)
theorem Grow.app {wq wr w' : World} {E : TypeId} {a a' : Option Addr} {n c c' : Nat} {xs : List Value} {v : Value} (h : Grow wq wr E a n c xs) (own : w'.ownsRow 0 E 1 (.slice a' (n + 1) c') (n + 1) (xs ++ [v]))
    (only : Only (fun k => Value.ownBlock (.slice a n c) = some k) wr w') (fresh : ∀ k, Value.ownBlock (.slice a' (n + 1) c') = some k → Value.ownBlock (.slice a n c) = some k ∨ wr.heap.size ≤ k) : Grow wq w' E a' (n + 1) c' (xs ++ [v]) := by
  have hs := h.b.size
  refine ⟨own, h.b.trans (only.below (B := wq.heap.size) hs (fun k _ e => h.fr k e)), ?_⟩
  intro j hj
  rcases fresh j hj with h1 | h1
  · exact h.fr j h1
  · omega
theorem Grow.empty (w : World) (E : TypeId) : Grow w (w.alloc (.cells #[] E)) E (some ⟨w.heap.size, 0, none⟩) 0 0 [] :=
  ⟨own_empty w E 1, (Below.refl _ _).alloc (Nat.le_refl _) _, fun j hj => by cases hj; exact Nat.le_refl _⟩
set_option maxHeartbeats 4000000 in
set_option maxRecDepth 100000 in
theorem rdirty_any (hr : RefSt w F o h T R) : Calls Try.prog 57 #[.pointer (some ⟨h, 0, none⟩)] w (NewNats w (dirtyL R)) := by
  generalize hpost : NewNats w (dirtyL R) = post
  have hn2 := hr.ok.n2
  obtain ⟨lb, lc, ns, h1, h2, h3, _⟩ := hr.ex
  have c := h1.cell (refCells_lines lb lc ns R)
  have hlt1 := h1.lt
  have h0 : Grow w (w.alloc (.cells #[] 3)) 3 (some ⟨w.heap.size, 0, none⟩) (dirtyTo R 0).length 0 (nats (dirtyTo R 0)) := Grow.empty w 3
  have hlines := fun (i : Nat) (hi : i < R.lines.length) => h2.cells hi
  have hlb : lb < w.heap.size := by obtain ⟨cs, _, x, _⟩ := h2; exact ownsRow_lt x (k := lb) rfl
  replace hpost := Lib.hid hpost
  clear hr h2
  go_enter Try.func57, Try.ntmps57
  go_wp2_with fail
  go_loopw [3, 12] (fun v i wr => ∃ (k : Nat) (a : Option Addr) (c : Nat), k ≤ R.lines.length ∧ i = .int .i64 k ∧ v = .slice a (dirtyTo R k).length c ∧ Grow w wr 3 a (dirtyTo R k).length c (nats (dirtyTo R k))) (fun _ i _ => R.lines.length - (intOf i).toNat)
  case atStart => exact ⟨0, _, 0, Nat.zero_le _, rfl, rfl, h0⟩
  case round =>
    clear h0 c
    obtain ⟨k, a, cc, hk, rfl, rfl, hG⟩ := hrel
    by_cases hlt : k < R.lines.length
    · have hkI : (k : Int) < (R.lines.length : Int) := by omega
      have hk0 : (0 : Int) ≤ (k : Int) := by omega
      obtain ⟨va, vc, hlc, hrd⟩ := hlines k hlt
      obtain ⟨c0, c1, c2, c3, c4, c5, c6, c7, c8, c9⟩ := hlc.only (Only.of_below hG.b) (Nat.not_le.2 hlb)
      have hsucc := dirtyTo_succ R k
      have hdl := dirtyTo_len R k
      clear hlc hrd
      by_cases hq : 0 < (R.line k).hist.length
      · have hqI : (0 : Int) < ((R.line k).hist.length : Int) := by omega
        rw [if_pos hq] at hsucc
        replace hsucc := Lib.hid hsucc
        generalize hdd : dirtyTo R k = ds at *
        replace hdd := Lib.hid hdd
        have hby : (ds.length + 1) * 8 ≤ 140737488355328 := by omega
        generalize hll : R.line k = l at *
        replace hll := Lib.hid hll
        have hown := (hG.alloc (.cells #[.int .u64 ((wat l.base 0 : Nat) : Int), .int .u64 ((wat l.base 1 : Nat) : Int), .int .u64 ((wat l.base 2 : Nat) : Int), .int .u64 ((wat l.base 3 : Nat) : Int), .int .u64 ((wat l.base 4 : Nat) : Int), .int .u64 ((wat l.base 5 : Nat) : Int), .int .u64 ((wat l.base 6 : Nat) : Int), .int .u64 ((wat l.base 7 : Nat) : Int), .slice va l.hist.length vc, .int .i64 (l.done : Int)] 122))
        go_wp2_with (at_builtin; go_loud (refine wpList_app1 rfl (.tmp 21) (.tmp 23) 65 rfl 3 (.int .i64 0) 8 Try.underlying65 infoInt rfl (by decide) a ds.length cc (nats ds) rfl (.int .i64 (k : Int)) _ _ rfl rfl hown.own _ rfl (World.size_alloc _ _) (by simp [Value.oneCell']) hby ?_); intro sa cap w1 own1 only1 fresh1)
        have hG1 := hown.app own1 only1 fresh1
        have hrel : ∃ (k' : Nat) (a' : Option Addr) (c' : Nat), k' ≤ R.lines.length ∧ Value.int .i64 ((k : Int) + 1) = .int .i64 k' ∧ Value.slice sa (ds.length + 1) cap = .slice a' (dirtyTo R k').length c' ∧ Grow w w1 3 a' (dirtyTo R k').length c' (nats (dirtyTo R k')) := by
          refine ⟨k + 1, sa, cap, by omega, by go_num, ?_, ?_⟩
          · rw [hsucc.out]; simp
          · rw [hsucc.out, nats_snoc]; simpa using hG1
        replace hrel := Lib.hid hrel
        clear own1 only1 fresh1 hG hG1 hown
        go_wp2_with fail
        go_roundw
        case rel => exact hrel.out
        case measure => simp [intOf]; omega
      · have hqI : ¬ (0 : Int) < ((R.line k).hist.length : Int) := by omega
        rw [if_neg hq] at hsucc
        replace hsucc := Lib.hid hsucc
        go_wp2_with fail
        go_roundw
        case rel => exact ⟨k + 1, a, cc, by omega, by go_num, by rw [hsucc.out], by rw [hsucc.out]; exact hG.alloc _⟩
        case measure => simp [intOf]; omega
    · obtain rfl : k = R.lines.length := by omega
      have hx : post (.returned (.slice a (dirtyTo R R.lines.length).length cc)) wr := by rw [← hpost.out]; exact ⟨a, cc, rfl, hG.own, hG.b, hG.fr⟩
      replace hx := Lib.hid hx
      clear hG
      go_wp2_with fail
      exact hx.out
end Go.Proofs.Ytikjpklbbjmioaa
