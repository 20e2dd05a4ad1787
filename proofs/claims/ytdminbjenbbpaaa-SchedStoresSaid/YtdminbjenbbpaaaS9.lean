/- awake: the chapter's examples. -/
import Derived.Test.YtdminbjenbbpaaaS2
import Derived.Test.YtdminbjenbbpaaaS3
import Derived.Test.YtdminbjenbbpaaaS7
import Derived.Test.YtdminbjenbbpaaaS8
namespace Go.Proofs.Ytdminbjenbbpaaa
open Go.RowKit

/-- Machines over some sizes, in one call: what is needed to run them. -/
def MachinesLeft (B : Nat) (sizes : List Int) (w : World) (e : Ending) (w' : World) : Prop :=
  ∃ sa cap ms, e = .returned (.slice sa ms.length cap) ∧ ms.length = sizes.length ∧ Rd w' (.slice sa ms.length cap) ms.length (ms.map mval) ∧ MSt w' ms (begs sizes) ∧ (∀ m ∈ ms, m ≠ none) ∧
    Below w.heap.size w w' ∧ (∀ b, some b ∈ ms → B ≤ b ∧ w.heap.size ≤ b) ∧ (∀ k, Value.ownBlock (.slice sa ms.length cap) = some k → k < w'.heap.size ∧ some k ∉ ms ∧ w.heap.size ≤ k)
theorem machines_ex (B : Nat) (v : Value) (sizes : List Int) (w : World) (hv : Rd w v sizes.length (sizes.map (.int .i64))) (hvb : ∀ k, v.ownBlock = some k → k < w.heap.size) (hn : sizes.length < 1099511627776) (hB : B ≤ w.heap.size) :
    Calls Try.prog 14 #[v] w (MachinesLeft B sizes w) := by
  refine (machines_any v sizes w hv hvb hn).mono ?_
  rintro e w' ⟨sa, cap, bs, rfl, hown, hM, hbel, hbs, hob⟩
  have hl : (bs.map some).length = sizes.length := by rw [hM.len]; simp [begs]
  refine ⟨sa, cap, bs.map some, by rw [hl], hl, ?_, hM, by simp, hbel, fun b hb => ?_, fun k hk => ?_⟩
  · rw [hl, List.map_map]; exact Rd.of_own hown
  · have := hbs b (by simpa using hb); omega
  · rw [hl] at hk
    obtain ⟨h1, h2⟩ := hob k hk
    exact ⟨ownsRow_lt hown hk, by simpa using h2, h1⟩

theorem runP_ex (b0 b1 : Nat) : (runP [some b0, some b1] (startS [some b0, some b1] (begs [1, 2])) [1, 0, 3, 1]).steps = [1, 0, 1] ∧ (runP [some b0, some b1] (startS [some b0, some b1] (begs [1, 2])) [1, 0, 3, 1]).ended = [1, 2] := ⟨by kernel_rfl, by kernel_rfl⟩

theorem begs_bd (sizes : List Int) (h : ∀ z ∈ sizes, z ≤ 9223372036854775807) : ∀ (i : Nat) (n : Int), (begs sizes)[i]? = some n → 0 ≤ n ∧ n ≤ 9223372036854775807 := by
  intro i n hi
  have := List.mem_of_getElem? hi
  simp only [begs, List.mem_map] at this
  obtain ⟨z, hz, rfl⟩ := this
  have := h z hz
  omega

theorem Below.weaken {B : Nat} {w w1 w' : World} (h : Below B w w1) (h' : Below w1.heap.size w1 w') (hB : B ≤ w1.heap.size) : Below B w w' := h.trans (h'.mono hB)

set_option maxHeartbeats 2000000 in
theorem awake_any (w : World) : Calls Try.prog 11 #[] w fun e w' => e = .returned (.bool true) ∧ Below w.heap.size w w' := by
  have H1 := Has.new w [.int .i64 1, .int .i64 2] 3
  have R1 := Rd.of_has H1 2 2
  go_enter Try.func11, Try.ntmps11
  go_wp2_with (go_at_call 14; refine (machines_ex w.heap.size _ [1, 2] _ R1 ?hh (by decide) (by simp)).mono ?_)
  case hh => intro k hk; simp [Value.ownBlock] at hk; simp; omega
  rintro e w1 ⟨sa, cap, ms, rfl, hml, hrd, hM, hnn, hB1, hbm, hob⟩
  obtain ⟨b0, b1, rfl⟩ : ∃ b0 b1, ms = [some b0, some b1] := by
    match ms, hml, hnn with
    | [some a, some b], _, _ => exact ⟨a, b, rfl⟩
    | [none, _], _, h => exact absurd rfl (h none (by simp))
    | [_, none], _, h => exact absurd rfl (h none (by simp))
  have H2 := Has.new w1 [.int .i64 1, .int .i64 0, .int .i64 3, .int .i64 1] 3
  have R2 := Rd.of_has H2 4 4
  have hB2 : Below w1.heap.size w1 (w1.alloc (.cells [.int .i64 1, .int .i64 0, .int .i64 3, .int .i64 1].toArray 3)) := (Below.refl _ _).alloc (Nat.le_refl _) _
  have hM2 := hM.only (Only.of_below hB2) (fun b hb => by have := hM.lt b hb; omega)
  have hrd2 := hrd.kept hB2
  have hBa := (((Below.refl w.heap.size w).alloc (Nat.le_refl _) (.cells [.int .i64 1, .int .i64 2].toArray 3)).trans (hB1.mono (by simp))).trans (hB2.mono (by have := hB1.size; simp at this; omega))
  have hsz := hBa.size
  have hob2 : ∀ k, Value.ownBlock (.slice sa [some b0, some b1].length cap) = some k → k < (w1.alloc (.cells [.int .i64 1, .int .i64 0, .int .i64 3, .int .i64 1].toArray 3)).heap.size ∧ some k ∉ [some b0, some b1] := fun k hk => by
    obtain ⟨h1, h2, _⟩ := hob k hk
    exact ⟨by simp; omega, h2⟩
  have hpb : ∀ k, Value.ownBlock (.slice (some ⟨w1.heap.size, 0, none⟩) 4 4) = some k → some k ∉ [some b0, some b1] := fun k hk hin => by
    have := hM.lt k hin
    simp [Value.ownBlock] at hk; omega
  go_wp2_with fail
  refine (run_any w.heap.size _ sa cap [some b0, some b1] (begs [1, 2]) (some ⟨w1.heap.size, 0, none⟩) 4 [1, 0, 3, 1] hM2 hrd2 hob2 (begs_bd _ (by decide)) hsz (fun b hb => (hbm b hb).1) (by simp) R2 (fun _ => hpb) (by decide) (by decide)).mono ?_
  rintro e w2 ⟨sb, sc, eb, rfl, hS, hE, _, _, hB3, _⟩
  obtain ⟨x1, x2⟩ := runP_ex b0 b1
  rw [x1] at hS ⊢
  rw [x2] at hE
  have hBb : Below w2.heap.size w2 (w2.alloc (.cells [.slice sb 3 sc, .slice eb 2 2].toArray 27)) := (Below.refl _ _).alloc (Nat.le_refl _) _
  have hBc : Below w2.heap.size w2 ((w2.alloc (.cells [.slice sb 3 sc, .slice eb 2 2].toArray 27)).alloc (.cells [.int .i64 2, .int .i64 1].toArray 3)) := hBb.alloc (by simp) _
  have hH := (Has.new w2 [.slice sb 3 sc, .slice eb 2 2] 27).alloc (.cells [.int .i64 2, .int .i64 1].toArray 3)
  have R3 := Rd.of_has (Has.new (w2.alloc (.cells [.slice sb 3 sc, .slice eb 2 2].toArray 27)) [.int .i64 2, .int .i64 1] 3) 2 2
  have hS := hS.kept hBc
  have hE := hE.kept hBc
  have hBd := hBa.trans (hB3.trans (hBc.mono (Nat.le_trans hsz hB3.size)))
  generalize hW : (w2.alloc (.cells [.slice sb 3 sc, .slice eb 2 2].toArray 27)).alloc (.cells [.int .i64 2, .int .i64 1].toArray 3) = w3 at *
  have HW := Lib.hid hW
  have g0 := hH.cell (o := 0) rfl
  have g1 := hH.cell (o := 1) rfl
  have hlt3 := hH.lt
  clear hM hM2 hrd hrd2 hob hob2 hpb R1 R2 H1 H2 hbm hnn hml x1 x2 hB1 hB2 hBb hBc hH hW hBa hB3
  go_wp2_with fail
  rw [show (w2.alloc (.cells #[.slice sb 3 sc, .slice eb 2 2] 27)).alloc (.cells #[.int .i64 2, .int .i64 1] 3) = w3 from HW.out]
  refine (count21 _ w3 (by simpa using R3)).mono ?_
  rintro e w4 ⟨rfl, m, rfl⟩
  have R4 := Rd.of_has (Has.new (w3.drewN m) [.int .i64 1, .int .i64 0, .int .i64 1] 3) 3 3
  have hS2 := hS.kept (w' := (w3.drewN m).alloc (.cells [.int .i64 1, .int .i64 0, .int .i64 1].toArray 3)) ((below_drewN (Below.refl _ _) m).alloc (by simp) _)
  go_wp2_with fail
  refine (same_any _ _ [1, 0, 1] [1, 0, 1] _ hS2 (by simpa using R4) (by decide) (by decide)).mono ?_
  rintro e w5 ⟨rfl, m2, rfl⟩
  have R5 := Rd.of_has (Has.new (((w3.drewN m).alloc (.cells [.int .i64 1, .int .i64 0, .int .i64 1].toArray 3)).drewN m2) [.int .i64 1, .int .i64 2] 3) 2 2
  have hB5 : Below w3.heap.size w3 ((((w3.drewN m).alloc (.cells [.int .i64 1, .int .i64 0, .int .i64 1].toArray 3)).drewN m2).alloc (.cells [.int .i64 1, .int .i64 2].toArray 3)) :=
    (below_drewN ((below_drewN (Below.refl _ _) m).alloc (by simp) _) m2).alloc (by simp) _
  have hE2 := hE.kept hB5
  have g1a : ((w3.drewN m).alloc (.cells #[.int .i64 1, .int .i64 0, .int .i64 1] 3)).cell? ⟨w2.heap.size, 1, none⟩ = some (.slice eb 2 2) := (World.cell?_alloc_past _ _ _ hlt3).trans g1
  clear R4 hS2 hS
  go_wp2_with fail
  refine (same_any _ _ [1, 2] [1, 2] _ hE2 (by simpa using R5) (by decide) (by decide)).mono ?_
  rintro e w6 ⟨rfl, m3, rfl⟩
  have hfin := below_drewN (hBd.trans (hB5.mono (by have := hBd.size; simpa using this))) m3
  go_wp2_with fail
  go_ret
  exact ⟨rfl, hfin⟩
end Go.Proofs.Ytdminbjenbbpaaa
