/- Append of all that a slice reads; clones of slices. -/
import Derived.Test.YtdminbjenbbpaaaD3
import Derived.Deep.Upon
import Derived.WalkSpells
namespace Go.Proofs.Ytdminbjenbbpaaa
open Go.RowKit Go.Maps

theorem appAll_run {P : Program} (w : World) (t ty e : TypeId) (z : Value) (size bytes : Nat) (ht : P.underlying t = some (.slice e))
    (hi : (P.info? e).map (fun i => (i.zero, i.size, i.bytes)) = some (some z, size, bytes)) (hzs : z.cells.size = size) (hsz : 0 < size) (hby : 0 < bytes)
    (sa : Option Addr) (n cap : Nat) (hcap : n ≤ cap) (xs : List Value) (hown : w.ownsRow 0 e size (.slice sa n cap) n xs)
    (xa : Option Addr) (m c : Nat) (news : List Value) (hrd : Rd w (.slice xa m c) m news) (hl : news.length = m * size) (h1 : ∀ u ∈ news, u.oneCell' = true)
    (hbytes : (n + m) * bytes ≤ 140737488355328) :
    ∃ sa' cap' w', (Builtin.append_ #[t, t] ty #[.slice sa n cap, .slice xa m c]).run P w = .ok (.slice sa' (n + m) cap') w' ∧ n + m ≤ cap' ∧ w'.ownsRow 0 e size (.slice sa' (n + m) cap') (n + m) (xs ++ news) ∧
      Only (fun k => Value.ownBlock (.slice sa n cap) = some k) w w' ∧ (∀ k, Value.ownBlock (.slice sa' (n + m) cap') = some k → Value.ownBlock (.slice sa n cap) = some k ∨ w.heap.size ≤ k) := by
  obtain ⟨xa', c', hxe, hrd⟩ := hrd
  simp only [Value.slice.injEq, true_and] at hxe
  obtain ⟨rfl, rfl⟩ := hxe
  have capok : ∀ sa' cap' (w' : World) ys, w'.ownsRow 0 e size (.slice sa' (n + m) cap') (n + m) ys → n + m ≤ cap' := by
    intro sa' cap' w' ys ho
    rcases ho.2 with ⟨h1, h2⟩ | ⟨g, cap2, cur, h1, _, _, h2, _⟩
    · omega
    · simp only [Value.slice.injEq] at h1
      obtain ⟨_, _, rfl⟩ := h1
      exact h2
  cases xa with
  | none =>
    have hm : m = 0 ∧ news = [] := by
      rcases hrd with h0 | ⟨b, off, h0, _⟩
      · exact h0
      · cases h0
    obtain ⟨rfl, rfl⟩ := hm
    obtain ⟨i, hi2, hz, hsize, hbb⟩ := info_parts hi
    exact ⟨sa, cap, w, run_append_nothing (P := P) w t t ty e i ht hi2 sa n cap hcap (.slice none 0 c) (Src.ofNil w ht c), hcap, by simpa using hown, Only.refl _ w, fun k hk => .inl hk⟩
  | some ad =>
    have hnews : ∀ j u, news[j]? = some u → w.cell? (ad.add j) = some u := by
      rcases hrd with ⟨_, h0⟩ | ⟨b, off, h0, hc⟩
      · subst h0; intro j u hj; simp at hj
      · simp only [Option.some.injEq] at h0
        subst h0
        intro j u hj
        have := hc j u hj
        unfold Addr.add
        split
        · simp_all
        · simpa using this
    obtain ⟨sa', cap', w', hr, h2, h3, h4⟩ := app_run (P := P) w t ty e z size bytes ht hi hzs hsz hby sa n cap xs hown ad m c news hl hnews h1 hbytes
    exact ⟨sa', cap', w', hr, capok sa' cap' w' _ h2, h2, h3, h4⟩
theorem wpList_appAll {P : Program} {w : World} {ops : Array Oper} {rest : List Oper} {o : Oper} {a : Act} {Q : Exit → Act → World → Prop} (hgd : o.guard = none) (s x : Operand) (t : TypeId)
    (ho : o.op = .call { callee := .builtin .append, args := #[s, x], argTypes := #[t, t] })
    (e : TypeId) (z : Value) (size bytes : Nat) (ht : P.underlying t = some (.slice e))
    (hi : (P.info? e).map (fun i => (i.zero, i.size, i.bytes)) = some (some z, size, bytes)) (hzs : z.cells.size = size) (hsz : 0 < size) (hby : 0 < bytes)
    (sa : Option Addr) (n cap : Nat) (hcap : n ≤ cap) (xs : List Value) (hown : w.ownsRow 0 e size (.slice sa n cap) n xs) (hs : a.eval s = .slice sa n cap)
    (xa : Option Addr) (m c : Nat) (news : List Value) (hx : a.eval x = .slice xa m c) (hrd : Rd w (.slice xa m c) m news) (hl : news.length = m * size) (h1 : ∀ u ∈ news, u.oneCell' = true)
    (hbytes : (n + m) * bytes ≤ 140737488355328)
    (h : ∀ sa' cap' w', n + m ≤ cap' → w'.ownsRow 0 e size (.slice sa' (n + m) cap') (n + m) (xs ++ news) → Only (fun k => Value.ownBlock (.slice sa n cap) = some k) w w' →
      (∀ k, Value.ownBlock (.slice sa' (n + m) cap') = some k → Value.ownBlock (.slice sa n cap) = some k ∨ w.heap.size ≤ k) → wpList P ops Q rest (a.put o.dst (.slice sa' (n + m) cap')) w') :
    wpList P ops Q (o :: rest) a w := by
  refine wpList_plain hgd fun K hK => ?_
  obtain ⟨sa', cap', w', hr, h0, h2, h3, h4⟩ := appAll_run (P := P) w t o.type e z size bytes ht hi hzs hsz hby sa n cap hcap xs hown xa m c news hrd hl h1 hbytes
  unfold Oper.wp execOp
  simp only [ho, resolve, invoke, builtin, Sem.run_bind, Sem.run_pure, Result.andThen_ok, List.map_toArray, List.map_cons, List.map_nil, hs, hx, hr]
  exact hK _ _ (h sa' cap' w' h0 h2 h3 h4)
theorem step_appAll {P : Program} {w : World} {ops : Array Oper} {o : Oper} {a : Act} {K : Act → World → Prop} {Q : Exit → Act → World → Prop} {E : Prop} (hgd : o.guard = none) (s x : Operand) (t : TypeId)
    (ho : o.op = .call { callee := .builtin .append, args := #[s, x], argTypes := #[t, t] })
    (e : TypeId) (z : Value) (size bytes : Nat) (ht : P.underlying t = some (.slice e))
    (hi : (P.info? e).map (fun i => (i.zero, i.size, i.bytes)) = some (some z, size, bytes)) (hzs : z.cells.size = size) (hsz : 0 < size) (hby : 0 < bytes)
    (sa : Option Addr) (n cap : Nat) (hcap : n ≤ cap) (xs : List Value) (hown : w.ownsRow 0 e size (.slice sa n cap) n xs) (hs : a.eval s = .slice sa n cap)
    (xa : Option Addr) (m c : Nat) (news : List Value) (hx : a.eval x = .slice xa m c) (hrd : Rd w (.slice xa m c) m news) (hl : news.length = m * size) (h1 : ∀ u ∈ news, u.oneCell' = true)
    (hbytes : (n + m) * bytes ≤ 140737488355328)
    (h : ∀ sa' cap' w', n + m ≤ cap' → w'.ownsRow 0 e size (.slice sa' (n + m) cap') (n + m) (xs ++ news) → Only (fun k => Value.ownBlock (.slice sa n cap) = some k) w w' →
      (∀ k, Value.ownBlock (.slice sa' (n + m) cap') = some k → Value.ownBlock (.slice sa n cap) = some k ∨ w.heap.size ≤ k) → K (a.put o.dst (.slice sa' (n + m) cap')) w') :
    if Region.wanted o (yielded ops a.tmps) = true then Oper.wp P o a w K Q else E := by
  have hw : Region.wanted o (yielded ops a.tmps) = true := by simp [Region.wanted, hgd]
  rw [if_pos hw]
  obtain ⟨sa', cap', w', hr, h0, h2, h3, h4⟩ := appAll_run (P := P) w t o.type e z size bytes ht hi hzs hsz hby sa n cap hcap xs hown xa m c news hrd hl h1 hbytes
  unfold Oper.wp execOp
  simp only [ho, resolve, invoke, builtin, Sem.run_bind, Sem.run_pure, Result.andThen_ok, List.map_toArray, List.map_cons, List.map_nil, hs, hx, hr]
  exact h sa' cap' w' h0 h2 h3 h4
/-- An empty slice that is not nil. -/
theorem own_empty (w : World) (T : TypeId) (size : Nat) : (w.alloc (.cells #[] T)).ownsRow 0 T size (.slice (some ⟨w.heap.size, 0, none⟩) 0 0) 0 [] :=
  ⟨by simp, .inr ⟨w.heap.size, 0, #[], rfl, Nat.zero_le _, heap_alloc_new, Nat.le_refl _, by decide, by simp, by simp⟩⟩

def ClonePost (w : World) (T size n : Nat) (xs : List Value) (e : Ending) (w' : World) : Prop :=
  ∃ a c, e = .returned (.slice a n c) ∧ w'.ownsRow 0 T size (.slice a n c) n xs ∧ Below w.heap.size w w' ∧ ∀ k, Value.ownBlock (.slice a n c) = some k → w.heap.size ≤ k
theorem u64s_one (l : List Nat) : ∀ u ∈ u64s l, u.oneCell' = true := by
  intro u hu; unfold u64s at hu; simp only [List.mem_map] at hu; obtain ⟨n, _, rfl⟩ := hu; rfl
theorem wcells_one (l : List (Nat × Nat)) : ∀ u ∈ wcells l, u.oneCell' = true := by
  intro u hu; unfold wcells at hu; simp only [List.mem_flatMap] at hu; obtain ⟨p, _, hu⟩ := hu
  simp only [List.mem_cons, List.not_mem_nil, or_false] at hu
  rcases hu with rfl | rfl <;> rfl

set_option maxHeartbeats 1000000 in
set_option maxRecDepth 100000 in
theorem cloneU_any (w : World) (b off c : Nat) (ws : List Nat) (hr : Rd w (.slice (some ⟨b, off, none⟩) ws.length c) ws.length (u64s ws)) (hl : ws.length ≤ 1000000) :
    Calls Try.prog 50 #[.slice (some ⟨b, off, none⟩) ws.length c] w (ClonePost w 35 1 ws.length (u64s ws)) := by
  generalize hpost : ClonePost w 35 1 ws.length (u64s ws) = post
  replace hpost := Lib.hid hpost
  have he := own_empty w 35 1
  have hrA : Rd (w.alloc (.cells #[] 35)) (.slice (some ⟨b, off, none⟩) ws.length c) ws.length (u64s ws) := hr.kept ((Below.refl _ _).alloc (Nat.le_refl _) _)
  have heq := fun (w : World) (a : Option Addr) (n c : Nat) => Lib.run_eql_slice_nil (P := Try.prog) w 38 35 a n c 0 0 Try.underlying38
  go_enter Try.func50, Try.ntmps50
  go_wp2_with (at_builtin; refine wpList_appAll rfl (.tmp 5) (.tmp 6) 38 rfl 35 (.int .u64 0) 1 8 Try.underlying38 infoU64 rfl (by decide) (by decide) _ 0 0 (Nat.le_refl _) [] he rfl _ ws.length c (u64s ws) rfl hrA (by rw [u64s_len, Nat.mul_one]) (u64s_one ws) (by omega) ?_; intro sa cap w1 hcap hown1 only1 fresh1)
  have hfin : post (.returned (.slice sa ws.length cap)) w1 := by
    rw [← hpost.out]
    rw [Nat.zero_add] at hown1 fresh1
    refine ⟨_, _, rfl, by simpa using hown1, ((Below.refl w.heap.size w).alloc (Nat.le_refl _) _).trans (only1.below (by simp) (fun k hk e => by simp [Value.ownBlock] at e; omega)), fun k hk => ?_⟩
    rcases fresh1 k hk with h1 | h1
    · simp [Value.ownBlock] at h1; omega
    · simp at h1; omega
  replace hfin := Lib.hid hfin
  clear hown1 only1 fresh1 he hrA hr hcap
  go_wp2_with fail
  exact hfin.out
set_option maxHeartbeats 1000000 in
set_option maxRecDepth 100000 in
theorem cloneW_any (w : World) (v : Value) (ws : List (Nat × Nat)) (hs : SubV w 99 2 v ws.length (wcells ws)) (hl : ws.length ≤ 1000000) :
    Calls Try.prog 42 #[v] w (ClonePost w 99 2 ws.length (wcells ws)) := by
  generalize hpost : ClonePost w 99 2 ws.length (wcells ws) = post
  rcases hs.2 with ⟨rfl, h0⟩ | ⟨b, off, c, _, rfl, _⟩
  · obtain rfl : ws = [] := List.eq_nil_of_length_eq_zero h0
    have hfin : post (.returned (.slice none 0 0)) w := by
      rw [← hpost]; exact ⟨none, 0, rfl, World.ownsRow_nil _ _ _ _, Below.refl _ _, fun k hk => by cases hk⟩
    replace hfin := Lib.hid hfin
    clear hpost hs
    have heq := fun (w : World) (a : Option Addr) (n c : Nat) => Lib.run_eql_slice_nil (P := Try.prog) w 63 99 a n c 0 0 Try.underlying63
    go_enter Try.func42, Try.ntmps42
    go_wp2_with fail
    exact hfin.out
  · have hr := hs.rd
    have he := own_empty w 99 2
    have hrA : Rd (w.alloc (.cells #[] 99)) (.slice (some ⟨b, off, none⟩) ws.length c) ws.length (wcells ws) := hr.kept ((Below.refl _ _).alloc (Nat.le_refl _) _)
    replace hpost := Lib.hid hpost
    clear hs hr
    have heq := fun (w : World) (a : Option Addr) (n c : Nat) => Lib.run_eql_slice_nil (P := Try.prog) w 63 99 a n c 0 0 Try.underlying63
    go_enter Try.func42, Try.ntmps42
    go_wp2_with (at_builtin; refine wpList_appAll rfl (.tmp 5) (.tmp 6) 63 rfl 99 (.agg #[.int .u64 0, .int .u64 0]) 2 16 Try.underlying63 infoW rfl (by decide) (by decide) _ 0 0 (Nat.le_refl _) [] he rfl _ ws.length c (wcells ws) rfl hrA (wcells_len ws) (wcells_one ws) (by omega) ?_; intro sa cap w1 hcap hown1 only1 fresh1)
    have hfin : post (.returned (.slice sa ws.length cap)) w1 := by
      rw [← hpost.out]
      rw [Nat.zero_add] at hown1 fresh1
      refine ⟨_, _, rfl, by simpa using hown1, ((Below.refl w.heap.size w).alloc (Nat.le_refl _) _).trans (only1.below (by simp) (fun k hk e => by simp [Value.ownBlock] at e; omega)), fun k hk => ?_⟩
      rcases fresh1 k hk with h1 | h1
      · simp [Value.ownBlock] at h1; omega
      · simp at h1; omega
    replace hfin := Lib.hid hfin
    clear hown1 only1 fresh1 he hrA hcap
    go_wp2_with fail
    exact hfin.out
end Go.Proofs.Ytdminbjenbbpaaa
