/- Cuts turned round, and cuts with a store twice (plain). -/
import Derived.Test.YtpgjpoilcdkjgaaQ4
namespace Go.Proofs.Ytpgjpoilcdkjgaa

theorem lineC_reverse (G : Gr) (set : List Int) (l : Nat) : lineC G set.reverse l = lineC G set l := by
  unfold lineC; rw [List.filter_reverse, List.length_reverse]
theorem cut_reverse {G : Gr} {set : List Int} (h : IsCut G set) : IsCut G set.reverse := by
  obtain ⟨h1, h2, h3, h4⟩ := h
  refine ⟨fun i hi => h1 i (List.mem_reverse.1 hi), by rw [List.nodup_iff_pairwise_ne, List.pairwise_reverse]; rw [List.nodup_iff_pairwise_ne] at h2; exact h2.imp (fun h e => h e.symm), fun i hi => ?_, fun l hl => ?_⟩
  · rw [lineC_reverse, List.mem_reverse]; exact h3 i hi
  · rw [lineC_reverse]; exact h4 l hl
theorem closed_reverse {G : Gr} (ok : G.Ok) {set : List Int} (h : closedP G set = true) : closedP G set.reverse = true :=
  (closed_iff ok _).2 (cut_reverse ((closed_iff ok _).1 h))
theorem closed_dup {G : Gr} (ok : G.Ok) (set : List Int) (i : Int) (hi : i ∈ set) : closedP G (set ++ [i]) = false := by
  cases h : closedP G (set ++ [i]) with
  | false => rfl
  | true =>
    have h2 := ((closed_iff ok _).1 h).2.1
    rw [List.nodup_append] at h2
    exact absurd rfl (h2.2.2 i hi i (by simp))
end Go.Proofs.Ytpgjpoilcdkjgaa
