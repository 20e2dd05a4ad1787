/- Contracts of the small functions of package sched and of the statements: Of, Left, Step, machines, same. -/
import Derived.Test.YtdminbjenbbpaaaRows
import Derived.Test.YtdminbjenbbpaaaHeap
import Derived.BigRegion
import Derived.BigQuiet
import Derived.Deep.QuietTactic
namespace Go.Proofs.Ytdminbjenbbpaaa
open Go.RowKit

theorem info3 : (Try.prog.info? 3).map (fun i => (i.zero, i.size, i.bytes)) = some (some (.int .i64 0), 1, 8) := by kernel_rfl
theorem info86 : (Try.prog.info? 86).map (fun i => (i.zero, i.size, i.bytes)) = some (some .nilIface, 1, 16) := by kernel_rfl

set_option maxHeartbeats 400000 in
theorem of_any (n : Int) (w : World) : Calls Try.prog 21 #[.int .i64 n] w fun e w' => e = .returned (.pointer (some ⟨w.heap.size, 0, none⟩)) ∧ w.alloc (.cells #[.int .i64 (max n 1)] 84) = w' := by
  by_cases h : n < 1
  · rw [show max n 1 = 1 from by omega]
    go_enter Try.func21, Try.ntmps21
    go_wp2
    go_ret
    exact ⟨rfl, rfl⟩
  · rw [show max n 1 = n from by omega]
    go_enter Try.func21, Try.ntmps21
    go_wp2
    go_ret
    exact ⟨rfl, rfl⟩

theorem left_any (b : Nat) (n : Int) (w : World) (hc : w.cell? ⟨b, 0, none⟩ = some (.int .i64 n)) :
    Calls Try.prog 22 #[.pointer (some ⟨b, 0, none⟩)] w fun e w' => e = .returned (.int .i64 n) ∧ w = w' := by
  go_enter Try.func22, Try.ntmps22
  go_wp2
  go_ret
  exact ⟨rfl, rfl⟩

set_option maxHeartbeats 400000 in
theorem step_any (b : Nat) (n : Int) (w : World) (hc : w.cell? ⟨b, 0, none⟩ = some (.int .i64 n)) (hf : w.frozen? ⟨b, 0, none⟩ = false) (h0 : 0 ≤ n) (h1 : n ≤ 9223372036854775807) :
    Calls Try.prog 24 #[.pointer (some ⟨b, 0, none⟩)] w fun e w' => e = .returned (.bool (decide (n ≤ 1))) ∧ w.setCell ⟨b, 0, none⟩ (.int .i64 (max (n-1) 0)) = w' := by
  by_cases h : n - 1 < 0
  · rw [show max (n-1) 0 = 0 from by omega, show decide (n ≤ 1) = true from by simp; omega]
    go_enter Try.func24, Try.ntmps24
    go_wp2
    go_ret
    exact ⟨rfl, rfl⟩
  · rw [show max (n-1) 0 = n-1 from by omega]
    go_enter Try.func24, Try.ntmps24
    go_wp2
    go_ret
    refine ⟨?_, rfl⟩
    have : (n - 1 == 0) = decide (n ≤ 1) := by rw [Bool.eq_iff_iff]; simp; omega
    simp [this]

/-- Machines: nil, or a Steps object in a block of its own; and what is left of each. -/
structure MSt (w : World) (ms : List (Option Nat)) (ls : List Int) : Prop where
  len : ms.length = ls.length
  inj : ∀ (i j b : Nat), ms[i]? = some (some b) → ms[j]? = some (some b) → i = j
  has : ∀ (i b : Nat) (n : Int), ms[i]? = some (some b) → ls[i]? = some n → Has w b [.int .i64 n] 84
theorem MSt.only {w w' : World} {ms : List (Option Nat)} {ls : List Int} {S : Nat → Prop} (h : MSt w ms ls) (ho : Only S w w') (hs : ∀ b, some b ∈ ms → ¬ S b) : MSt w' ms ls :=
  ⟨h.len, h.inj, fun i b n hb hn => (h.has i b n hb hn).only ho (hs b (List.mem_of_getElem? hb))⟩
theorem MSt.lt {w : World} {ms : List (Option Nat)} {ls : List Int} (h : MSt w ms ls) : ∀ b, some b ∈ ms → b < w.heap.size := by
  intro b hb
  obtain ⟨i, hi⟩ := List.mem_iff_getElem?.1 hb
  have hlt : i < ms.length := by rcases Nat.lt_or_ge i ms.length with h1 | h1; exact h1; rw [List.getElem?_eq_none h1] at hi; cases hi
  exact (h.has i b _ hi (List.getElem?_eq_getElem (by rw [← h.len]; exact hlt))).lt
theorem MSt.new {w : World} {ms : List (Option Nat)} {ls : List Int} (h : MSt w ms ls) (n : Int) : MSt (w.alloc (.cells #[.int .i64 n] 84)) (ms ++ [some w.heap.size]) (ls ++ [n]) := by
  have hlt := h.lt
  have key : ∀ (i b : Nat), (ms ++ [some w.heap.size])[i]? = some (some b) → (i < ms.length ∧ ms[i]? = some (some b)) ∨ (i = ms.length ∧ b = w.heap.size) := by
    intro i b hb
    rcases Nat.lt_or_ge i ms.length with h1 | h1
    · rw [List.getElem?_append_left h1] at hb; exact .inl ⟨h1, hb⟩
    · rw [List.getElem?_append_right h1] at hb
      match hj : i - ms.length, hb with
      | 0, hb => simp at hb; exact .inr ⟨by omega, hb.symm⟩
      | j + 1, hb => simp at hb
  refine ⟨by simp [h.len], ?_, ?_⟩
  · intro i j b hi hj
    rcases key i b hi with ⟨h1, h2⟩ | ⟨h1, h2⟩ <;> rcases key j b hj with ⟨h3, h4⟩ | ⟨h3, h4⟩
    · exact h.inj i j b h2 h4
    · have := hlt b (List.mem_of_getElem? h2); omega
    · have := hlt b (List.mem_of_getElem? h4); omega
    · omega
  · intro i b m hb hm
    rcases key i b hb with ⟨h1, h2⟩ | ⟨h1, h2⟩
    · rw [List.getElem?_append_left (by rw [← h.len]; exact h1)] at hm
      exact (h.has i b m h2 hm).alloc _
    · subst h1 h2
      rw [List.getElem?_append_right (by rw [h.len]; exact Nat.le_refl _), h.len] at hm
      simp at hm
      subst hm
      exact Has.new w [.int .i64 n] 84
theorem MSt.set {w : World} {ms : List (Option Nat)} {ls : List Int} (h : MSt w ms ls) {i b : Nat} (hi : ms[i]? = some (some b)) (n : Int) : MSt (w.setCell ⟨b, 0, none⟩ (.int .i64 n)) ms (ls.set i n) := by
  refine ⟨by simp [h.len], h.inj, ?_⟩
  intro j c m hj hm
  by_cases e : j = i
  · subst e
    rw [hi] at hj
    simp only [Option.some.injEq] at hj
    subst hj
    have hlt : j < ls.length := by rw [← h.len]; rcases Nat.lt_or_ge j ms.length with h1 | h1; exact h1; rw [List.getElem?_eq_none h1] at hi; cases hi
    rw [List.getElem?_set_self hlt] at hm
    simp only [Option.some.injEq] at hm
    subst hm
    have := (h.has j b _ hi (List.getElem?_eq_getElem hlt)).set 0 (.int .i64 n)
    simpa using this
  · rw [List.getElem?_set_ne (Ne.symm e)] at hm
    exact (h.has j c m hj hm).set_ne (fun hc => e (h.inj j i b (by simp at hc; rw [← hc]; exact hj) hi)) _
def mval : Option Nat → Value
  | some b => .iface 46 (.pointer (some ⟨b, 0, none⟩))
  | none => .nilIface
/-- What the machines of these sizes begin with. -/
def begs (l : List Int) : List Int := l.map (fun n => max n 1)

set_option maxHeartbeats 1000000 in
theorem machines_any (v : Value) (sizes : List Int) (w : World) (hv : Rd w v sizes.length (sizes.map (.int .i64))) (hvb : ∀ k, v.ownBlock = some k → k < w.heap.size) (hn : sizes.length < 1099511627776) :
    Calls Try.prog 14 #[v] w fun e w' => ∃ sa cap, ∃ bs : List Nat, e = .returned (.slice sa sizes.length cap) ∧ w'.ownsRow 0 86 1 (.slice sa sizes.length cap) sizes.length (bs.map (fun b => mval (some b))) ∧ MSt w' (bs.map some) (begs sizes) ∧
      Below w.heap.size w w' ∧ (∀ b ∈ bs, w.heap.size ≤ b) ∧ (∀ k, Value.ownBlock (.slice sa sizes.length cap) = some k → w.heap.size ≤ k ∧ k ∉ bs) := by
  obtain ⟨a, vc, rfl, hvc⟩ := hv
  go_enter Try.func14, Try.ntmps14
  go_wp2_with fail
  go_loopw [3, 8] (fun v i wr => ∃ (k : Nat) (sa : Option Addr) (cap : Nat) (bs : List Nat), k ≤ sizes.length ∧ i = .int .i64 k ∧ v = .slice sa k cap ∧ wr.ownsRow 0 86 1 (.slice sa k cap) k (bs.map (fun b => mval (some b))) ∧ MSt wr (bs.map some) (begs (sizes.take k)) ∧
      Below w.heap.size w wr ∧ (∀ b ∈ bs, w.heap.size ≤ b) ∧ (∀ k', Value.ownBlock (.slice sa k cap) = some k' → w.heap.size ≤ k' ∧ k' ∉ bs))
    (fun _ i _ => sizes.length - (intOf i).toNat)
  case atStart => exact ⟨0, none, 0, [], Nat.zero_le _, rfl, rfl, World.ownsRow_nil _ _ _ _, ⟨rfl, by simp, by simp⟩, Below.refl _ _, by simp, by simp [Value.ownBlock]⟩
  case round =>
    obtain ⟨k, sa, cap, bs, hk, rfl, rfl, hown, hM, hB, hbs, hob⟩ := hrel
    by_cases hlt : k < sizes.length
    · rcases hvc with ⟨hz, _⟩ | ⟨b, off, rfl, hvc⟩
      · omega
      have hc := (hB.cell (p := ⟨b, off + k, none⟩) (hvb b rfl)).trans (hvc k _ (ints_get sizes .i64 k hlt))
      have HM := hM.new (max (sizes.getD k 0) 1)
      have hsz := hB.size
      generalize hq : sizes.getD k 0 = q at *
      have Hq := Lib.hid hq
      clear hq
      have hown2 := hown.alloc (.cells #[.int .i64 (max q 1)] 84)
      go_wp2_with (first | (go_at_call 21; refine (of_any _ _).mono ?_; rintro e w' ⟨rfl, rfl⟩) | (at_builtin; refine wpList_app1 rfl (.tmp 12) (.tmp 16) 29 rfl 86 .nilIface 16 Try.underlying29 info86 rfl (by decide) sa k cap (bs.map (fun b => mval (some b))) rfl (mval (some wr.heap.size)) _ (wr.alloc (.cells #[.int .i64 (max q 1)] 84)) rfl rfl hown2 _ rfl (by simp) rfl ?hby ?_))
      case hby => omega
      intro sa' cap' w2 own2 only2 fresh2
      have HM2 := HM.only only2 (fun b hb he => by
        rcases List.mem_append.1 hb with h1 | h1
        · exact (hob b he).2 (by simpa using h1)
        · simp at h1; subst h1; have := ownsRow_lt hown he; omega)
      go_wp2_with fail
      go_roundw
      case rel =>
        refine ⟨k + 1, sa', cap', bs ++ [wr.heap.size], by omega, by go_num, rfl, by simpa using own2, ?_, (hB.alloc hsz _).trans (only2.below (B := w.heap.size) (by simp; omega) (fun b _ hb => (hob b hb).1)), ?_, ?_⟩
        · have e : begs (sizes.take (k+1)) = begs (sizes.take k) ++ [max q 1] := by
            rw [take_getD sizes k 0 hlt, Hq.out]; unfold begs; rw [List.map_append]; rfl
          rw [e, List.map_append]; exact HM2
        · intro b hb
          rcases List.mem_append.1 hb with h1 | h1
          · exact hbs b h1
          · simp at h1; omega
        · intro b hb
          have hl := hM.lt
          rcases fresh2 b hb with h1 | h1
          · have := ownsRow_lt hown h1
            refine ⟨(hob b h1).1, fun h2 => ?_⟩
            rcases List.mem_append.1 h2 with h3 | h3
            · exact (hob b h1).2 h3
            · simp at h3; omega
          · have h1 : wr.heap.size + 1 ≤ b := by simpa using h1
            refine ⟨by omega, fun h2 => ?_⟩
            rcases List.mem_append.1 h2 with h3 | h3
            · have := hl b (by simpa using h3); omega
            · simp at h3; omega
      case measure => simp [intOf]; omega
    · have : k = sizes.length := by omega
      subst this
      go_wp2
      go_ret
      exact ⟨sa, cap, bs, rfl, hown, by simpa using hM, hB, hbs, hob⟩

end Go.Proofs.Ytdminbjenbbpaaa
