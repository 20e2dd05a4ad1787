/- An append that keeps the former slice readable. -/
import Derived.Test.YtpgjpoilcdkjgaaO34
import Derived.BigFrame
namespace Go.Proofs.Ytpgjpoilcdkjgaa
open Go.RowKit

theorem app_kept {P : Program} (w : World) (t ty e : TypeId) (z : Value) (bytes : Nat) (ht : P.underlying t = some (.slice e))
    (hi : (P.info? e).map (fun i => (i.zero, i.size, i.bytes)) = some (some z, 1, bytes)) (hzs : z.cells.size = 1) (hby : 0 < bytes)
    (sa : Option Addr) (n cap : Nat) (xs : List Value) (hown : w.ownsRow 0 e 1 (.slice sa n cap) n xs)
    (ad : Addr) (m c : Nat) (news : List Value) (hl : news.length = m) (hnews : ∀ j u, news[j]? = some u → w.cell? (ad.add j) = some u) (h1 : ∀ u ∈ news, u.oneCell' = true)
    (hbytes : (n + m) * bytes ≤ 140737488355328) :
    ∃ sa' cap' w', (Builtin.append_ #[t, t] ty #[.slice sa n cap, .slice (some ad) m c]).run P w = .ok (.slice sa' (n + m) cap') w' ∧
      w'.ownsRow 0 e 1 (.slice sa' (n + m) cap') (n + m) (xs ++ news) ∧ Only (fun k => Value.ownBlock (.slice sa n cap) = some k) w w' ∧
      (∀ k, Value.ownBlock (.slice sa' (n + m) cap') = some k → Value.ownBlock (.slice sa n cap) = some k ∨ w.heap.size ≤ k) ∧ Rd w' (.slice sa n cap) n xs := by
  obtain ⟨sa', cap', w', hr, h2, h3, h4⟩ := app_run (P := P) w t ty e z 1 bytes ht hi hzs (by decide) hby sa n cap xs hown ad m c news (by rw [hl, Nat.mul_one]) hnews h1 hbytes
  refine ⟨sa', cap', w', hr, h2, h3, h4, ?_⟩
  have hxl : xs.length = n := by have := hown.1; simpa using this
  obtain ⟨i, hi, hz, hsize, hbb⟩ := info_parts hi
  have hnm : n + m ≤ 140737488355328 := Nat.le_trans (Nat.le_mul_of_pos_right _ hby) hbytes
  rcases hown.2 with ⟨hv, hn⟩ | ⟨g, cap0, cur, hv, _, hg, hnc, _, hcs, _⟩
  · simp only [Value.slice.injEq] at hv
    obtain ⟨rfl, rfl, rfl⟩ := hv
    have hxs : xs = [] := List.eq_nil_of_length_eq_zero hxl
    subst hxs
    exact ⟨_, _, rfl, .inl ⟨rfl, rfl⟩⟩
  · simp only [Value.slice.injEq, true_and] at hv
    obtain ⟨rfl, rfl⟩ := hv
    by_cases hroom : n + m ≤ cap
    · have hr2 := run_append_room (P := P) w t ty e i ht hi g n cap cur hg ad m c news (by rw [hsize, hl, Nat.mul_one]) hnews h1 hroom (by rw [hl, hcs, hsize]; omega)
      rw [hr2] at hr
      simp only [Result.ok.injEq, Value.slice.injEq, true_and] at hr
      obtain ⟨⟨rfl, rfl⟩, _⟩ := hr
      have := (Rd.of_own h2).take n (by omega) (by simp [hxl, hl])
      rw [List.take_append_of_le_length (by omega), List.take_of_length_le (by omega)] at this
      exact this
    · have hr2 := run_append_grow (P := P) w t ty e i z ht hi hz ⟨g, 0, none⟩ n cap xs (by rw [hsize]; exact hown.1) (hown.cells (g := g) rfl) ad m c news (by rw [hsize, hl, Nat.mul_one]) hnews (by omega) (by omega) (growslice_fits (by omega) (by rw [hbb]; exact hbytes))
      rw [hr2] at hr
      simp only [Result.ok.injEq] at hr
      rw [← hr.2]
      exact (Rd.of_own hown).kept ((below_drewN (Below.refl w.heap.size w) 1).alloc (Nat.le_refl _) _)
/-- The same as a step of the walk, for one element of one cell boxed in block g; the operation may stand under a guard. -/
theorem wpList_appKept {P : Program} {w : World} {ops : Array Oper} {rest : List Oper} {o : Oper} {a : Act} {Q : Exit → Act → World → Prop} (hw : Region.wanted o (yielded ops a.tmps) = true) (s x : Operand) (t : TypeId)
    (ho : o.op = .call { callee := .builtin .append, args := #[s, x], argTypes := #[t, t] })
    (e : TypeId) (z : Value) (bytes : Nat) (ht : P.underlying t = some (.slice e))
    (hi : (P.info? e).map (fun i => (i.zero, i.size, i.bytes)) = some (some z, 1, bytes)) (hzs : z.cells.size = 1) (hby : 0 < bytes)
    (sa : Option Addr) (n cap : Nat) (xs : List Value) (hs : a.eval s = .slice sa n cap) (u : Value) (hown : w.ownsRow 0 e 1 (.slice sa n cap) n xs)
    (g : Nat) (hx : a.eval x = .slice (some ⟨g, 0, none⟩) 1 1) (hg : w.cell? ⟨g, 0, none⟩ = some u) (h1 : u.oneCell' = true)
    (hbytes : (n + 1) * bytes ≤ 140737488355328)
    (h : ∀ sa' cap' w', w'.ownsRow 0 e 1 (.slice sa' (n + 1) cap') (n + 1) (xs ++ [u]) → Only (fun k => Value.ownBlock (.slice sa n cap) = some k) w w' →
      (∀ k, Value.ownBlock (.slice sa' (n + 1) cap') = some k → Value.ownBlock (.slice sa n cap) = some k ∨ w.heap.size ≤ k) → Rd w' (.slice sa n cap) n xs → wpList P ops Q rest (a.put o.dst (.slice sa' (n + 1) cap')) w') :
    wpList P ops Q (o :: rest) a w := by
  refine BigFrame.wpList_want hw fun K hK => ?_
  obtain ⟨sa', cap', w', hr, h2, h3, h4, h5⟩ := app_kept (P := P) w t o.type e z bytes ht hi hzs hby sa n cap xs hown ⟨g, 0, none⟩ 1 1 [u] rfl (by
    intro j y hj
    match j, hj with
    | 0, hj => simp at hj; subst hj; simpa [Addr.add] using hg
    | j + 1, hj => simp at hj) (by simpa using h1) hbytes
  unfold Oper.wp execOp
  simp only [ho, resolve, invoke, builtin, Sem.run_bind, Sem.run_pure, Result.andThen_ok, List.map_toArray, List.map_cons, List.map_nil, hs, hx, hr]
  exact hK _ _ (h sa' cap' w' h2 h3 h4 h5)
/-- An append of all that a slice reads (one-cell elements), as a step of a region that draws its order. -/
theorem step_appAll {P : Program} {w : World} {ops : Array Oper} {o : Oper} {a : Act} {K : Act → World → Prop} {Q : Exit → Act → World → Prop} {E : Prop} (hgd : o.guard = none) (s x : Operand) (t : TypeId)
    (ho : o.op = .call { callee := .builtin .append, args := #[s, x], argTypes := #[t, t] })
    (e : TypeId) (z : Value) (bytes : Nat) (ht : P.underlying t = some (.slice e))
    (hi : (P.info? e).map (fun i => (i.zero, i.size, i.bytes)) = some (some z, 1, bytes)) (hzs : z.cells.size = 1) (hby : 0 < bytes)
    (sa : Option Addr) (n cap : Nat) (hcap : n ≤ cap) (xs : List Value) (hs : a.eval s = .slice sa n cap) (hown : w.ownsRow 0 e 1 (.slice sa n cap) n xs)
    (xa : Option Addr) (m c : Nat) (news : List Value) (hx : a.eval x = .slice xa m c) (hrd : Rd w (.slice xa m c) m news) (hl : news.length = m) (h1 : ∀ u ∈ news, u.oneCell' = true)
    (hbytes : (n + m) * bytes ≤ 140737488355328)
    (h : ∀ sa' cap' w', n + m ≤ cap' → w'.ownsRow 0 e 1 (.slice sa' (n + m) cap') (n + m) (xs ++ news) → Only (fun k => Value.ownBlock (.slice sa n cap) = some k) w w' →
      (∀ k, Value.ownBlock (.slice sa' (n + m) cap') = some k → Value.ownBlock (.slice sa n cap) = some k ∨ w.heap.size ≤ k) → K (a.put o.dst (.slice sa' (n + m) cap')) w') :
    if Region.wanted o (yielded ops a.tmps) = true then Oper.wp P o a w K Q else E := by
  have hw : Region.wanted o (yielded ops a.tmps) = true := by simp [Region.wanted, hgd]
  rw [if_pos hw]
  obtain ⟨xa', c', hxe, hrd⟩ := hrd
  simp only [Value.slice.injEq, true_and] at hxe
  obtain ⟨rfl, rfl⟩ := hxe
  have capok : ∀ sa' cap' (w' : World) ys, w'.ownsRow 0 e 1 (.slice sa' (n + m) cap') (n + m) ys → n + m ≤ cap' := by
    intro sa' cap' w' ys ho
    rcases ho.2 with ⟨h1, h2⟩ | ⟨g, cap2, cur, h1, _, _, h2, _⟩
    · omega
    · simp only [Value.slice.injEq] at h1
      obtain ⟨_, _, rfl⟩ := h1
      exact h2
  have finish : ∀ sa' cap' w', (Builtin.append_ #[t, t] o.type #[.slice sa n cap, .slice xa m c]).run P w = .ok (.slice sa' (n + m) cap') w' →
      K (a.put o.dst (.slice sa' (n + m) cap')) w' → Oper.wp P o a w K Q := by
    intro sa' cap' w' hr hk
    unfold Oper.wp execOp
    simp only [ho, resolve, invoke, builtin, Sem.run_bind, Sem.run_pure, Result.andThen_ok, List.map_toArray, List.map_cons, List.map_nil, hs, hx, hr]
    exact hk
  cases xa with
  | none =>
    have hm : m = 0 ∧ news = [] := by
      rcases hrd with h0 | ⟨b, off, h0, _⟩
      · exact h0
      · cases h0
    obtain ⟨rfl, rfl⟩ := hm
    obtain ⟨i, hi2, hz, hsize, hbb⟩ := info_parts hi
    exact finish sa cap w (run_append_nothing (P := P) w t t o.type e i ht hi2 sa n cap hcap (.slice none 0 c) (Src.ofNil w ht c)) (h sa cap w hcap (by simpa using hown) (Only.refl _ w) (fun k hk => .inl hk))
  | some ad =>
    have hnews : ∀ j u, news[j]? = some u → w.cell? (ad.add j) = some u := by
      rcases hrd with ⟨_, h0⟩ | ⟨b, off, h0, hc⟩
      · subst h0; intro j u hj; simp at hj
      · simp only [Option.some.injEq] at h0
        subst h0
        intro j u hj
        have := hc j u hj
        unfold Addr.add
        split
        · simp_all
        · simpa using this
    obtain ⟨sa', cap', w', hr, h2, h3, h4⟩ := app_run (P := P) w t o.type e z 1 bytes ht hi hzs (by decide) hby sa n cap xs hown ad m c news (by rw [hl, Nat.mul_one]) hnews h1 hbytes
    exact finish sa' cap' w' hr (h sa' cap' w' (capok sa' cap' w' _ h2) h2 h3 h4)
end Go.Proofs.Ytpgjpoilcdkjgaa
