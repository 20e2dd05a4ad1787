/- Heap lemmas of our own: what one block holds (Has), and a frame with a set of blocks that may have changed (Only). Nothing here names a program. -/
import Derived.WalkKit
import Derived.WalkLawsBesides
import Derived.Deep.Draws
import Derived.Lib.Hide
import Derived.OpenShut
namespace Go.Proofs.Ytjmdibgncaljaaa
open Go.RowKit

/-- Block b holds exactly these cells, and is not frozen. -/
def Has (w : World) (b : Nat) (cs : List Value) (T : TypeId) : Prop := w.heap[b]? = some (.cells cs.toArray T (0, 0))

/-- Only blocks of S, and new ones, may have changed from w to w'. -/
structure Only (S : Nat → Prop) (w w' : World) : Prop where
  os : w'.os = w.os
  tape : w'.tape = w.tape
  output : w'.output = w.output
  size : w.heap.size ≤ w'.heap.size
  block : ∀ k, k < w.heap.size → ¬ S k → w'.heap[k]? = w.heap[k]?

theorem heap_lt {w : World} {b : Nat} {o : Obj} (h : w.heap[b]? = some o) : b < w.heap.size := by
  rcases Nat.lt_or_ge b w.heap.size with h1 | h1
  · exact h1
  · rw [Array.getElem?_eq_none h1] at h; cases h

theorem Has.lt {w : World} {b : Nat} {cs : List Value} {T : TypeId} (h : Has w b cs T) : b < w.heap.size := heap_lt h
theorem Has.cell {w : World} {b : Nat} {cs : List Value} {T : TypeId} (h : Has w b cs T) {o : Nat} {v : Value} (hv : cs[o]? = some v) : w.cell? ⟨b, o, none⟩ = some v := by
  unfold Has at h; simp [World.cell?, h, hv]
theorem Has.free {w : World} {b : Nat} {cs : List Value} {T : TypeId} (h : Has w b cs T) (o : Nat) : w.frozen? ⟨b, o, none⟩ = false := by
  unfold Has at h; simp [World.frozen?, h]
theorem Has.inj {w : World} {b : Nat} {cs cs' : List Value} {T T' : TypeId} (h : Has w b cs T) (h' : Has w b cs' T') : cs = cs' ∧ T = T' := by
  unfold Has at h h'; rw [h] at h'; simp at h'; exact h'
theorem heap_setCell_ne {w : World} {a : Addr} {v : Value} {k : Nat} (h : k ≠ a.block) : (w.setCell a v).heap[k]? = w.heap[k]? := Below.heap_setCell _ _ _ _ h
theorem heap_alloc_lt {w : World} {o : Obj} {k : Nat} (h : k < w.heap.size) : (w.alloc o).heap[k]? = w.heap[k]? := Below.heap_alloc _ _ _ h
theorem heap_alloc_new {w : World} {o : Obj} : (w.alloc o).heap[w.heap.size]? = some o := by
  show (w.heap.push o)[w.heap.size]? = _; simp
theorem Has.set {w : World} {b : Nat} {cs : List Value} {T : TypeId} (h : Has w b cs T) (o : Nat) (v : Value) : Has (w.setCell ⟨b, o, none⟩ v) b (cs.set o v) T := by
  unfold Has at *; simp [World.setCell, Array.getElem?_modify, h]
theorem Has.set_ne {w : World} {b : Nat} {cs : List Value} {T : TypeId} (h : Has w b cs T) {a : Addr} (hn : b ≠ a.block) (v : Value) : Has (w.setCell a v) b cs T := by
  unfold Has at *; rw [heap_setCell_ne hn]; exact h
theorem Has.alloc {w : World} {b : Nat} {cs : List Value} {T : TypeId} (h : Has w b cs T) (o : Obj) : Has (w.alloc o) b cs T := by
  have := h.lt; unfold Has at *; rw [heap_alloc_lt this]; exact h
theorem Has.new (w : World) (cs : List Value) (T : TypeId) : Has (w.alloc (.cells cs.toArray T)) w.heap.size cs T := heap_alloc_new
theorem Has.drew {w : World} {b : Nat} {cs : List Value} {T : TypeId} (h : Has w b cs T) : Has w.drew b cs T := h
theorem Has.drewN {w : World} {b : Nat} {cs : List Value} {T : TypeId} (h : Has w b cs T) (n : Nat) : Has (w.drewN n) b cs T := h
theorem Has.only {w w' : World} {b : Nat} {cs : List Value} {T : TypeId} {S : Nat → Prop} (h : Has w b cs T) (ho : Only S w w') (hs : ¬ S b) : Has w' b cs T := by
  have := h.lt; unfold Has at *; rw [ho.block b this hs]; exact h

theorem Only.refl (S : Nat → Prop) (w : World) : Only S w w := ⟨rfl, rfl, rfl, Nat.le_refl _, fun _ _ _ => rfl⟩
theorem Only.mono {S S' : Nat → Prop} {w w' : World} (h : Only S w w') (hs : ∀ k, k < w.heap.size → S k → S' k) : Only S' w w' :=
  ⟨h.os, h.tape, h.output, h.size, fun k hk hn => h.block k hk (fun s => hn (hs k hk s))⟩
theorem Only.trans' {S S' : Nat → Prop} {w w1 w2 : World} (h : Only S w w1) (h' : Only S' w1 w2) (hs : ∀ k, k < w.heap.size → S' k → S k) : Only S w w2 :=
  ⟨h'.os.trans h.os, h'.tape.trans h.tape, h'.output.trans h.output, Nat.le_trans h.size h'.size, fun k hk hn =>
    (h'.block k (Nat.lt_of_lt_of_le hk h.size) (fun s => hn (hs k hk s))).trans (h.block k hk hn)⟩
theorem Only.trans {S : Nat → Prop} {w w1 w2 : World} (h : Only S w w1) (h' : Only S w1 w2) : Only S w w2 := h.trans' h' fun _ _ s => s
/-- Two steps with two sets. -/
theorem Only.both {S S' : Nat → Prop} {w w1 w2 : World} (h : Only S w w1) (h' : Only S' w1 w2) : Only (fun k => S k ∨ S' k) w w2 :=
  (h.mono fun _ _ s => Or.inl s).trans (h'.mono fun _ _ s => Or.inr s)
theorem Only.drew {S : Nat → Prop} {w w' : World} (h : Only S w w') : Only S w w'.drew := ⟨h.os, h.tape, h.output, h.size, h.block⟩
theorem Only.drewN {S : Nat → Prop} {w w' : World} (h : Only S w w') (n : Nat) : Only S w (w'.drewN n) := ⟨h.os, h.tape, h.output, h.size, h.block⟩
theorem Only.alloc {S : Nat → Prop} {w w' : World} (h : Only S w w') (o : Obj) : Only S w (w'.alloc o) :=
  h.trans ⟨rfl, rfl, rfl, by simp, fun _ hk _ => heap_alloc_lt hk⟩
theorem Only.setCell {S : Nat → Prop} {w w' : World} (h : Only S w w') {a : Addr} (ha : a.block < w.heap.size → S a.block) (v : Value) : Only S w (w'.setCell a v) :=
  h.trans' (S' := fun k => k = a.block) ⟨rfl, rfl, rfl, by simp, fun _ _ hn => heap_setCell_ne hn⟩ fun k hk e => by subst e; exact ha hk
theorem Only.of_grown {w w' : World} {row : Option Nat} (h : w.grownBy w' row) : Only (fun k => some k = row) w w' := ⟨h.os, h.tape, h.output, h.size, h.block⟩
theorem Only.of_below {B : Nat} {w w' : World} (h : Below B w w') : Only (fun k => B ≤ k) w w' := ⟨h.os, h.tape, h.output, h.size, fun k _ hn => h.block k (by omega)⟩
theorem Only.below {S : Nat → Prop} {w w' : World} (h : Only S w w') {B : Nat} (hB : B ≤ w.heap.size) (hs : ∀ k, k < w.heap.size → S k → B ≤ k) : Below B w w' :=
  ⟨h.os, h.tape, h.output, h.size, fun k hk => h.block k (by omega) (fun s => by have := hs k (by omega) s; omega)⟩
theorem Only.cell {S : Nat → Prop} {w w' : World} (h : Only S w w') {a : Addr} {v : Value} (hv : w.cell? a = some v) (hs : ¬ S a.block) : w'.cell? a = some v := by
  have hlt : a.block < w.heap.size := World.block_lt_of_cell? _ _ hv
  rw [World.cell?_of_block (w := w) (h.block a.block hlt hs)]; exact hv

theorem ownsRow_only {S : Nat → Prop} {w w' : World} {e : TypeId} {size : Nat} {v : Value} {n : Nat} {xs : List Value} (h : w.ownsRow 0 e size v n xs) (ho : Only S w w')
    (hs : ∀ k, v.ownBlock = some k → ¬ S k) : w'.ownsRow 0 e size v n xs := by
  obtain ⟨h1, h2⟩ := h
  refine ⟨h1, ?_⟩
  rcases h2 with h2 | ⟨g, cap, cur, hv, hg, hh, r⟩
  · exact .inl h2
  · refine .inr ⟨g, cap, cur, hv, hg, ?_, r⟩
    rw [ho.block g (heap_lt hh) (hs g (by rw [hv]; rfl))]; exact hh

theorem ownsRow_lt {w : World} {e : TypeId} {size : Nat} {v : Value} {n : Nat} {xs : List Value} (h : w.ownsRow 0 e size v n xs) {k : Nat} (hk : v.ownBlock = some k) : k < w.heap.size := (h.lt k hk).2

/-- What a slice value reads: n elements, whose cells in a row are these. -/
def Rd (w : World) (v : Value) (n : Nat) (cells : List Value) : Prop :=
  ∃ a cap, v = .slice a n cap ∧ ((n = 0 ∧ cells = []) ∨ ∃ b off, a = some ⟨b, off, none⟩ ∧ ∀ j u, cells[j]? = some u → w.cell? ⟨b, off + j, none⟩ = some u)
theorem Rd.only {S : Nat → Prop} {w w' : World} {v : Value} {n : Nat} {cells : List Value} (h : Rd w v n cells) (ho : Only S w w') (hs : ∀ k, v.ownBlock = some k → ¬ S k) : Rd w' v n cells := by
  obtain ⟨a, cap, rfl, h⟩ := h
  refine ⟨a, cap, rfl, ?_⟩
  rcases h with h | ⟨b, off, rfl, h⟩
  · exact .inl h
  · exact .inr ⟨b, off, rfl, fun j u hj => ho.cell (h j u hj) (hs b rfl)⟩
theorem Rd.below {B : Nat} {w w' : World} {v : Value} {n : Nat} {cells : List Value} (h : Rd w v n cells) (ho : Below B w w') (hs : ∀ k, v.ownBlock = some k → k < B) : Rd w' v n cells :=
  h.only (Only.of_below ho) fun k hk h => by have := hs k hk; omega
/-- What a slice reads stays while no block that there was has changed. -/
theorem Rd.kept {w w' : World} {v : Value} {n : Nat} {cells : List Value} (h : Rd w v n cells) (ho : Below w.heap.size w w') : Rd w' v n cells := by
  obtain ⟨a, cap, rfl, h⟩ := h
  refine ⟨a, cap, rfl, ?_⟩
  rcases h with h | ⟨b, off, rfl, h⟩
  · exact .inl h
  · exact .inr ⟨b, off, rfl, fun j u hj => by
      have hc := h j u hj
      have hlt : b < w.heap.size := by simpa using World.block_lt_of_cell? _ _ hc
      exact (ho.cell (p := ⟨b, off + j, none⟩) hlt).trans hc⟩
theorem Rd.drewN {w : World} {v : Value} {n : Nat} {cells : List Value} (h : Rd w v n cells) (m : Nat) : Rd (w.drewN m) v n cells := h
theorem Rd.of_own {w : World} {e : TypeId} {size : Nat} {v : Value} {n : Nat} {xs : List Value} (h : w.ownsRow 0 e size v n xs) : Rd w v n xs := by
  obtain ⟨h1, h2⟩ := h
  rcases h2 with ⟨rfl, rfl⟩ | ⟨g, cap, cur, rfl, _, hh, _, _, hz, ht⟩
  · exact ⟨none, 0, rfl, .inl ⟨rfl, by simpa using h1⟩⟩
  · refine ⟨_, cap, rfl, .inr ⟨g, 0, rfl, fun j u hj => ?_⟩⟩
    rw [← ht, List.getElem?_take] at hj
    split at hj
    · simp only [World.cell?, hh, Nat.zero_add]; simpa using hj
    · cases hj
theorem Rd.of_has {w : World} {b : Nat} {cs : List Value} {T : TypeId} (h : Has w b cs T) (n cap : Nat) : Rd w (.slice (some ⟨b, 0, none⟩) n cap) n cs :=
  ⟨_, cap, rfl, .inr ⟨b, 0, rfl, fun j u hj => by rw [Nat.zero_add]; exact h.cell hj⟩⟩
theorem Rd.nil (w : World) : Rd w (.slice none 0 0) 0 [] := ⟨none, 0, rfl, .inl ⟨rfl, rfl⟩⟩
/-- The head of a slice that reads something: an address, and its cells. -/
theorem Rd.cells {w : World} {v : Value} {n : Nat} {cells : List Value} (h : Rd w v n cells) (hn : 0 < n) :
    ∃ b off cap, v = .slice (some ⟨b, off, none⟩) n cap ∧ ∀ j u, cells[j]? = some u → w.cell? ⟨b, off + j, none⟩ = some u := by
  obtain ⟨a, cap, rfl, h⟩ := h
  rcases h with ⟨h, _⟩ | ⟨b, off, rfl, h⟩
  · omega
  · exact ⟨b, off, cap, rfl, h⟩
theorem take_getD {α : Type} (xs : List α) (k : Nat) (d : α) (h : k < xs.length) : xs.take (k + 1) = xs.take k ++ [xs.getD k d] := by
  rw [List.take_add_one, List.getElem?_eq_getElem h, List.getD, List.getElem?_eq_getElem h]; rfl
/-- A list that is being turned element by element: its first j elements are turned. -/
def half {α : Type} (f : α → α) (xs : List α) (j : Nat) : List α := (xs.take j).map f ++ xs.drop j
theorem half_zero {α : Type} (f : α → α) (xs : List α) : half f xs 0 = xs := by simp [half]
theorem half_all {α : Type} (f : α → α) (xs : List α) : half f xs xs.length = xs.map f := by simp [half]
theorem half_length {α : Type} (f : α → α) (xs : List α) (j : Nat) : (half f xs j).length = xs.length := by simp [half]; omega
theorem half_get {α : Type} (f : α → α) (xs : List α) (j : Nat) (d : α) (h : j < xs.length) : (half f xs j)[j]? = some (xs.getD j d) := by
  unfold half
  rw [List.getElem?_append_right (by simp; omega)]
  simp [Nat.min_eq_left (Nat.le_of_lt h), List.getD, List.getElem?_eq_getElem h]
theorem half_set {α : Type} (f : α → α) (xs : List α) (j : Nat) (d : α) (h : j < xs.length) : (half f xs j).set j (f (xs.getD j d)) = half f xs (j + 1) := by
  apply List.ext_getElem?
  intro i
  unfold half
  by_cases hi : i = j
  · subst hi
    rw [List.getElem?_set_self (by simp; omega)]
    rw [List.getElem?_append_left (by simp; omega)]
    simp [List.getD, List.getElem?_eq_getElem h]
  · rw [List.getElem?_set_ne (Ne.symm hi)]
    rcases Nat.lt_or_ge i j with h1 | h1
    · rw [List.getElem?_append_left (by simp; omega), List.getElem?_append_left (by simp; omega)]
      simp [h1, Nat.lt_succ_of_lt h1]
    · rw [List.getElem?_append_right (by simp; omega), List.getElem?_append_right (by simp; omega)]
      simp only [List.length_map, List.length_take, List.getElem?_drop]
      congr 1
      omega
theorem half_keep {α : Type} (f : α → α) (xs : List α) (j : Nat) (d : α) (h : j < xs.length) (hf : f (xs.getD j d) = xs.getD j d) : half f xs (j + 1) = half f xs j := by
  rw [← half_set f xs j d h, hf]
  apply List.ext_getElem?
  intro i
  by_cases hi : i = j
  · subst hi
    rw [List.getElem?_set_self (by rw [half_length]; exact h), half_get f xs i d h]
  · rw [List.getElem?_set_ne (Ne.symm hi)]
theorem ints_get (xs : List Int) (k : IntKind) (i : Nat) (h : i < xs.length) : (xs.map (Value.int k))[i]? = some (.int k (xs.getD i 0)) := by
  simp [List.getElem?_eq_getElem h, List.getD]

/-- An append to a row of the call's own (or to nil): its value, what it owns, what may have changed, where it lies. -/
theorem app_run {P : Program} (w : World) (t ty e : TypeId) (z : Value) (size bytes : Nat) (ht : P.underlying t = some (.slice e))
    (hi : (P.info? e).map (fun i => (i.zero, i.size, i.bytes)) = some (some z, size, bytes)) (hzs : z.cells.size = size) (hsz : 0 < size) (hby : 0 < bytes)
    (sa : Option Addr) (n cap : Nat) (xs : List Value) (hown : w.ownsRow 0 e size (.slice sa n cap) n xs)
    (ad : Addr) (m c : Nat) (news : List Value) (hl : news.length = m * size) (hnews : ∀ j u, news[j]? = some u → w.cell? (ad.add j) = some u) (h1 : ∀ u ∈ news, u.oneCell' = true)
    (hbytes : (n + m) * bytes ≤ 140737488355328) :
    ∃ sa' cap' w', (Builtin.append_ #[t, t] ty #[.slice sa n cap, .slice (some ad) m c]).run P w = .ok (.slice sa' (n + m) cap') w' ∧
      w'.ownsRow 0 e size (.slice sa' (n + m) cap') (n + m) (xs ++ news) ∧ Only (fun k => Value.ownBlock (.slice sa n cap) = some k) w w' ∧
      (∀ k, Value.ownBlock (.slice sa' (n + m) cap') = some k → Value.ownBlock (.slice sa n cap) = some k ∨ w.heap.size ≤ k) := by
  obtain ⟨i, hi, hz, hsize, hbb⟩ := info_parts hi
  have hnm : n + m ≤ 140737488355328 := Nat.le_trans (Nat.le_mul_of_pos_right _ hby) hbytes
  obtain ⟨v', w', hr, h2, h3, _⟩ := run_append_own (P := P) w 0 t ty e i z size bytes ht hi hz hsize hbb hzs hsz (.slice sa n cap) n xs hown ad m c news hl hnews h1 (by unfold maxLen; omega) hbytes (Nat.zero_le _)
  have hO : Only (fun k => Value.ownBlock (.slice sa n cap) = some k) w w' := (Only.of_grown h3).mono fun k _ e => e.symm
  have key : ∃ sa' cap', v' = .slice sa' (n + m) cap' ∧ (∀ k, Value.ownBlock (.slice sa' (n + m) cap') = some k → Value.ownBlock (.slice sa n cap) = some k ∨ w.heap.size ≤ k) := by
    rcases hown.2 with ⟨hv, hn⟩ | ⟨g, cap0, cur, hv, _, hg, hnc, _, hcs, _⟩
    · simp only [Value.slice.injEq] at hv
      obtain ⟨rfl, rfl, rfl⟩ := hv
      by_cases hm : m = 0
      · subst hm
        rcases h2.2 with ⟨rfl, _⟩ | ⟨g', cap', cur', rfl, _, hg', _⟩
        · exact ⟨none, 0, rfl, fun k hk => by simp [Value.ownBlock] at hk⟩
        · have hnews0 : news = [] := List.eq_nil_of_length_eq_zero (by simpa using hl)
          subst hnews0
          simp [Builtin.append_, run_underlying ht, sizeOf, typeInfo, hi, Builtin.lenOf, Builtin.firstCells, loadCells, loadCellsFrom] at hr
      · have hxs : xs = [] := List.eq_nil_of_length_eq_zero (by simpa using hown.1)
        subst hxs
        have hr2 := run_append_nil (P := P) w t ty e i z ht hi hz ad m c news (by rw [hsize]; exact hl) hnews (by omega) (by omega) (by rw [hbb]; simp only [Nat.zero_add] at hbytes; omega)
        rw [hr2] at hr
        simp only [Result.ok.injEq] at hr
        refine ⟨_, _, by rw [← hr.1, Nat.zero_add], fun k hk => ?_⟩
        simp only [Value.ownBlock, Option.some.injEq] at hk
        exact .inr (by omega)
    · simp only [Value.slice.injEq, true_and] at hv
      obtain ⟨rfl, rfl⟩ := hv
      by_cases hroom : n + m ≤ cap
      · have hr2 := run_append_room (P := P) w t ty e i ht hi g n cap cur hg ad m c news (by rw [hsize]; exact hl) hnews h1 hroom (by rw [hl, hcs, hsize, ← Nat.add_mul]; exact Nat.mul_le_mul_right _ hroom)
        rw [hr2] at hr
        simp only [Result.ok.injEq] at hr
        exact ⟨_, _, hr.1.symm, fun k hk => .inl hk⟩
      · have hr2 := run_append_grow (P := P) w t ty e i z ht hi hz ⟨g, 0, none⟩ n cap xs (by rw [hsize]; exact hown.1) (hown.cells (g := g) rfl) ad m c news (by rw [hsize]; exact hl) hnews (by omega) (by omega) (growslice_fits (by omega) (by rw [hbb]; exact hbytes))
        rw [hr2] at hr
        simp only [Result.ok.injEq] at hr
        refine ⟨_, _, hr.1.symm, fun k hk => ?_⟩
        simp only [Value.ownBlock, Option.some.injEq] at hk
        exact .inr (by omega)
  obtain ⟨sa', cap', rfl, hk⟩ := key
  exact ⟨sa', cap', w', hr, h2, hO, hk⟩

/-- The same as a step of the walk. -/
theorem wpList_app {P : Program} {w : World} {ops : Array Oper} {rest : List Oper} {o : Oper} {a : Act} {Q : Exit → Act → World → Prop} (hgd : o.guard = none) (s x : Operand) (t : TypeId)
    (ho : o.op = .call { callee := .builtin .append, args := #[s, x], argTypes := #[t, t] })
    (e : TypeId) (z : Value) (size bytes : Nat) (ht : P.underlying t = some (.slice e))
    (hi : (P.info? e).map (fun i => (i.zero, i.size, i.bytes)) = some (some z, size, bytes)) (hzs : z.cells.size = size) (hsz : 0 < size) (hby : 0 < bytes)
    (sa : Option Addr) (n cap : Nat) (xs : List Value) (hown : w.ownsRow 0 e size (.slice sa n cap) n xs) (hs : a.eval s = .slice sa n cap)
    (ad : Addr) (m c : Nat) (news : List Value) (hx : a.eval x = .slice (some ad) m c) (hl : news.length = m * size) (hnews : ∀ j u, news[j]? = some u → w.cell? (ad.add j) = some u) (h1 : ∀ u ∈ news, u.oneCell' = true)
    (hbytes : (n + m) * bytes ≤ 140737488355328)
    (h : ∀ sa' cap' w', w'.ownsRow 0 e size (.slice sa' (n + m) cap') (n + m) (xs ++ news) → Only (fun k => Value.ownBlock (.slice sa n cap) = some k) w w' →
      (∀ k, Value.ownBlock (.slice sa' (n + m) cap') = some k → Value.ownBlock (.slice sa n cap) = some k ∨ w.heap.size ≤ k) → wpList P ops Q rest (a.put o.dst (.slice sa' (n + m) cap')) w') :
    wpList P ops Q (o :: rest) a w := by
  refine wpList_plain hgd fun K hK => ?_
  obtain ⟨sa', cap', w', hr, h2, h3, h4⟩ := app_run (P := P) w t o.type e z size bytes ht hi hzs hsz hby sa n cap xs hown ad m c news hl hnews h1 hbytes
  unfold Oper.wp execOp
  simp only [ho, resolve, invoke, builtin, Sem.run_bind, Sem.run_pure, Result.andThen_ok, List.map_toArray, List.map_cons, List.map_nil, hs, hx, hr]
  exact hK _ _ (h sa' cap' w' h2 h3 h4)

/-- An append of one one-cell element, which the walk has just boxed in block g. -/
theorem wpList_app1 {P : Program} {w : World} {ops : Array Oper} {rest : List Oper} {o : Oper} {a : Act} {Q : Exit → Act → World → Prop} (hgd : o.guard = none) (s x : Operand) (t : TypeId)
    (ho : o.op = .call { callee := .builtin .append, args := #[s, x], argTypes := #[t, t] })
    (e : TypeId) (z : Value) (bytes : Nat) (ht : P.underlying t = some (.slice e))
    (hi : (P.info? e).map (fun i => (i.zero, i.size, i.bytes)) = some (some z, 1, bytes)) (hzs : z.cells.size = 1) (hby : 0 < bytes)
    (sa : Option Addr) (n cap : Nat) (xs : List Value) (hs : a.eval s = .slice sa n cap) (u : Value) (ou : Obj) (w0 : World) (hw : w = w0.alloc ou) (hou : ou = .cells #[u] e) (hown : w0.ownsRow 0 e 1 (.slice sa n cap) n xs)
    (g : Nat) (hx : a.eval x = .slice (some ⟨g, 0, none⟩) 1 1) (hg : w0.heap.size = g) (h1 : u.oneCell' = true)
    (hbytes : (n + 1) * bytes ≤ 140737488355328)
    (h : ∀ sa' cap' w', w'.ownsRow 0 e 1 (.slice sa' (n + 1) cap') (n + 1) (xs ++ [u]) → Only (fun k => Value.ownBlock (.slice sa n cap) = some k) w0 w' →
      (∀ k, Value.ownBlock (.slice sa' (n + 1) cap') = some k → Value.ownBlock (.slice sa n cap) = some k ∨ w0.heap.size ≤ k) → wpList P ops Q rest (a.put o.dst (.slice sa' (n + 1) cap')) w') :
    wpList P ops Q (o :: rest) a w := by
  subst hw hou hg
  refine wpList_app hgd s x t ho e z 1 bytes ht hi hzs (by decide) hby sa n cap xs (hown.alloc _) hs ⟨w0.heap.size, 0, none⟩ 1 1 [u] hx rfl ?_ (by simpa using h1) hbytes ?_
  · intro j y hj
    match j, hj with
    | 0, hj => simp at hj; subst hj; simp [Addr.add]
  · intro sa' cap' w' h2 h3 h4
    refine h sa' cap' w' h2 (((Only.refl _ w0).alloc _).trans h3) fun k hk => ?_
    rcases h4 k hk with h5 | h5
    · exact .inl h5
    · exact .inr (by simp at h5; omega)

/-- make([]T, n) of one-cell elements: the exact world. -/
theorem make1 {P : Program} (t e : TypeId) (z : Value) (bytes : Nat) (ht : P.underlying t = some (.slice e)) (hi : (P.info? e).map (fun i => (i.zero, i.size, i.bytes)) = some (some z, 1, bytes)) (hz : z.cells = #[z])
    (n : Nat) (hb : n * bytes ≤ 281474976710656) (hn : n ≤ 9223372036854775807) (w : World) :
    (Instr.makeSlice t (.int .i64 n) (.int .i64 n)).run P w = .ok (.slice (some ⟨w.heap.size, 0, none⟩) n n) (w.alloc (.cells (Array.replicate n z) e)) := by
  obtain ⟨i, h1, h2, h3, h4⟩ := info_parts hi
  have hb' : (i.bytes : Int) * (n : Int) ≤ 281474976710656 := by
    have h : ((i.bytes * n : Nat) : Int) ≤ 281474976710656 := by rw [h4, Nat.mul_comm]; omega
    rwa [Int.natCast_mul] at h
  have := run_make (P := P) w t e i z ht h1 h2 .i64 .i64 n n (by omega) (Int.le_refl _) hb' (by omega)
  simp only [Int.toNat_natCast, h3, Nat.mul_one, hz] at this
  rw [this]
  have e : madeCells #[z] n = Array.replicate n z := by
    apply Array.ext'
    rw [toList_madeCells_one, Array.toList_replicate]
  rw [e]
theorem Has.rep (w : World) (n : Nat) (z : Value) (T : TypeId) : Has (w.alloc (.cells (Array.replicate n z) T)) w.heap.size (List.replicate n z) T := by
  have := Has.new w (List.replicate n z) T
  simpa using this
theorem ret1_eq {a b : Value} (h : a = b) : Ending.returned a = .returned b := by rw [h]
theorem ret2_eq {a b c d : Value} (h1 : a = c) (h2 : b = d) : Ending.returned (.tuple #[a, b]) = .returned (.tuple #[c, d]) := by rw [h1, h2]
theorem int_eq {k : IntKind} {a b : Int} (h : a = b) : Value.int k a = .int k b := by rw [h]
theorem Rd.lt {w : World} {v : Value} {n : Nat} {cells : List Value} (h : Rd w v n cells) (hc : cells ≠ []) {k : Nat} (hk : v.ownBlock = some k) : k < w.heap.size := by
  obtain ⟨a, cap, rfl, h⟩ := h
  rcases h with ⟨_, h⟩ | ⟨b, off, rfl, h⟩
  · exact absurd h hc
  · obtain ⟨u, hu⟩ : ∃ u, cells[0]? = some u := by
      cases cells with
      | nil => exact absurd rfl hc
      | cons u _ => exact ⟨u, rfl⟩
    have := World.block_lt_of_cell? _ _ (h 0 u hu)
    simp [Value.ownBlock] at hk
    subst hk
    simpa using this

/-- A slice of integers that came in: nil, or a row of 'cap' numbers, of which the first 'len' are its elements. -/
def IsRow (k : IntKind) (w : World) (a : Option Addr) (len cap : Nat) (zs : List Int) : Prop :=
  (a = none ∧ len = 0 ∧ cap = 0 ∧ zs = []) ∨
  ∃ x, a = some x ∧ len ≤ cap ∧ cap ≤ maxLen ∧ zs.length = cap ∧ (∀ i, i < zs.length → w.cell? (x.add i) = some (.int k (zs.getD i 0))) ∧ ∀ n ∈ zs, (Lit.int k n).wf = true
theorem IsRow.rd {k : IntKind} {w : World} {a : Option Addr} {len cap : Nat} {zs : List Int} (h : IsRow k w a len cap zs) :
    ∃ ys : List Int, ys.length = len ∧ ys = zs.take len ∧ Rd w (.slice a len cap) len (ys.map (.int k)) ∧ (∀ y ∈ ys, (Lit.int k y).wf = true) ∧ len ≤ 9223372036854775807 := by
  rcases h with ⟨rfl, rfl, rfl, rfl⟩ | ⟨x, rfl, hl, hm, hz, hc, hw⟩
  · exact ⟨[], rfl, rfl, Rd.nil w, by simp, by omega⟩
  · have hll : (zs.take len).length = len := by simp; omega
    refine ⟨zs.take len, hll, rfl, ?_, fun y hy => hw y (List.mem_of_mem_take hy), by unfold maxLen at hm; omega⟩
    by_cases h0 : len = 0
    · subst h0; exact ⟨_, _, rfl, .inl ⟨rfl, by simp⟩⟩
    · obtain ⟨b, off, spot⟩ := x
      have c0 := hc 0 (by omega)
      have hs : spot = none := by simpa [Addr.add] using World.cell?_spot c0
      subst hs
      refine ⟨_, _, rfl, .inr ⟨b, off, rfl, fun j u hj => ?_⟩⟩
      have hjl : j < len := by
        rcases Nat.lt_or_ge j len with h1 | h1
        · exact h1
        · rw [List.getElem?_eq_none (by simp; omega)] at hj; cases hj
      have hcj := hc j (by omega)
      have hj2 : (zs.take len)[j]? = some (zs.getD j 0) := by
        rw [List.getElem?_take, if_pos hjl, List.getElem?_eq_getElem (by omega), List.getD, List.getElem?_eq_getElem (by omega)]; rfl
      rw [List.getElem?_map, hj2] at hj
      simp only [Option.map_some, Option.some.injEq] at hj
      subst hj
      rw [← hcj]
      congr 1
      unfold Addr.add
      split <;> simp_all
end Go.Proofs.Ytjmdibgncaljaaa
