/- Blocks with roles; a slice that lies anywhere in a block of its own, and what is appended to it. -/
import Derived.Test.YtikjpklbbjmioaaHeap
import Derived.ArgAppend
namespace Go.Proofs.Ytikjpklbbjmioaa
open Go.RowKit

/-- Who a block belongs to: the object, the part of it, and which of these parts. -/
abbrev Own := Nat → Option (Nat × Nat × Nat)
def Ext (w : World) (F F' : Own) : Prop := ∀ k, k < w.heap.size → F' k = F k
def Own.put (F : Own) (b : Nat) (r : Nat × Nat × Nat) : Own := fun k => if k = b then some r else F k
theorem Ext.refl (w : World) (F : Own) : Ext w F F := fun _ _ => rfl
theorem Ext.trans {w w' : World} {F F' F'' : Own} (h : Ext w F F') (h' : Ext w' F' F'') (hs : w.heap.size ≤ w'.heap.size) : Ext w F F'' := fun k hk => (h' k (by omega)).trans (h k hk)
theorem Ext.put {w : World} {F F' : Own} (h : Ext w F F') {b : Nat} (hb : w.heap.size ≤ b) (r : Nat × Nat × Nat) : Ext w F (F'.put b r) := fun k hk => by
  unfold Own.put; rw [if_neg (by omega)]; exact h k hk
theorem Own.put_at (F : Own) (b : Nat) (r : Nat × Nat × Nat) : F.put b r b = some r := by simp [Own.put]
theorem Own.put_ne (F : Own) {b k : Nat} (r : Nat × Nat × Nat) (h : k ≠ b) : F.put b r k = F k := by simp [Own.put, h]
theorem Own.ne {F : Own} {a b : Nat} {r s : Nat × Nat × Nat} (h : F a = some r) (h' : F b = some s) (hn : r ≠ s) : a ≠ b := by
  rintro rfl; rw [h] at h'; exact hn (Option.some.inj h')

/-- A slice of n elements that lies anywhere in a block of its own, or nil. -/
def SubV (w : World) (e : TypeId) (size : Nat) (v : Value) (n : Nat) (xs : List Value) : Prop :=
  xs.length = n * size ∧ ((v = .slice none 0 0 ∧ n = 0) ∨ ∃ b off cap cur, v = .slice (some ⟨b, off, none⟩) n cap ∧ w.heap[b]? = some (.cells cur e (0, 0)) ∧ n ≤ cap ∧ cap ≤ maxLen ∧ off + cap * size ≤ cur.size ∧ (cur.toList.drop off).take (n * size) = xs)
theorem SubV.nil (w : World) (e : TypeId) (size : Nat) : SubV w e size (.slice none 0 0) 0 [] := ⟨by simp, .inl ⟨rfl, rfl⟩⟩
theorem SubV.lt {w : World} {e : TypeId} {size : Nat} {v : Value} {n : Nat} {xs : List Value} (h : SubV w e size v n xs) {k : Nat} (hk : v.ownBlock = some k) : k < w.heap.size := by
  rcases h.2 with ⟨rfl, _⟩ | ⟨b, off, cap, cur, rfl, hh, _⟩
  · cases hk
  · simp [Value.ownBlock] at hk; subst hk; exact heap_lt hh
theorem SubV.only {S : Nat → Prop} {w w' : World} {e : TypeId} {size : Nat} {v : Value} {n : Nat} {xs : List Value} (h : SubV w e size v n xs) (ho : Only S w w') (hs : ∀ k, v.ownBlock = some k → ¬ S k) : SubV w' e size v n xs := by
  refine ⟨h.1, ?_⟩
  rcases h.2 with h2 | ⟨b, off, cap, cur, hv, hh, r⟩
  · exact .inl h2
  · exact .inr ⟨b, off, cap, cur, hv, by rw [ho.block b (heap_lt hh) (hs b (by rw [hv]; rfl))]; exact hh, r⟩
theorem SubV.alloc {w : World} {e : TypeId} {size : Nat} {v : Value} {n : Nat} {xs : List Value} (h : SubV w e size v n xs) (x : Obj) : SubV (w.alloc x) e size v n xs := h.only ((Only.refl (fun _ => False) w).alloc x) (fun _ _ s => s)
theorem SubV.rd {w : World} {e : TypeId} {size : Nat} {v : Value} {n : Nat} {xs : List Value} (h : SubV w e size v n xs) : Rd w v n xs := by
  rcases h.2 with ⟨rfl, rfl⟩ | ⟨b, off, cap, cur, rfl, hh, _, _, _, ht⟩
  · exact ⟨none, 0, rfl, .inl ⟨rfl, List.eq_nil_of_length_eq_zero (by simpa using h.1)⟩⟩
  · refine ⟨_, cap, rfl, .inr ⟨b, off, rfl, fun j u hj => ?_⟩⟩
    rw [← ht, List.getElem?_take] at hj
    split at hj
    · rw [List.getElem?_drop] at hj
      simp only [World.cell?, hh]; simpa using hj
    · cases hj
/-- What is left of it behind k elements. -/
theorem SubV.from {w : World} {e : TypeId} {size : Nat} {b off n cap : Nat} {xs : List Value} (h : SubV w e size (.slice (some ⟨b, off, none⟩) n cap) n xs) {k : Nat} (hk : k ≤ n) :
    SubV w e size (.slice (some ⟨b, off + k * size, none⟩) (n - k) (cap - k)) (n - k) (xs.drop (k * size)) := by
  have hmul : k * size + (n - k) * size = n * size := by rw [← Nat.add_mul]; congr 1; omega
  refine ⟨by rw [List.length_drop, h.1]; omega, ?_⟩
  rcases h.2 with ⟨h1, _⟩ | ⟨b', off', cap', cur, hv, hh, h1, h2, h3, h4⟩
  · cases h1
  · simp only [Value.slice.injEq, Option.some.injEq, Addr.mk.injEq, true_and] at hv
    obtain ⟨⟨rfl, rfl, _⟩, rfl⟩ := hv
    have hc : k * size + (cap - k) * size = cap * size := by rw [← Nat.add_mul]; congr 1; omega
    refine .inr ⟨b, off + k * size, cap - k, cur, rfl, hh, by omega, by omega, by omega, ?_⟩
    rw [← h4, ← List.drop_drop, ← hmul, List.drop_take, Nat.add_sub_cancel_left]

theorem SubV.of_own {w : World} {e : TypeId} {size : Nat} {v : Value} {n : Nat} {xs : List Value} (h : w.ownsRow 0 e size v n xs) : SubV w e size v n xs := by
  obtain ⟨h1, h2⟩ := h
  refine ⟨h1, ?_⟩
  rcases h2 with ⟨rfl, rfl⟩ | ⟨g, cap, cur, rfl, _, hh, hn, hm, hz, ht⟩
  · exact .inl ⟨rfl, rfl⟩
  · exact .inr ⟨g, 0, cap, cur, rfl, hh, hn, hm, by omega, by simpa using ht⟩

theorem run_append_sub_room {P : Program} (w : World) (t ty e : TypeId) (i : TypeInfo) (ht : P.underlying t = some (.slice e)) (hi : P.info? e = some i)
    (g off sLen sCap : Nat) (cur : Array Value) (hg : w.heap[g]? = some (.cells cur e (0, 0)))
    (a : Addr) (m c : Nat) (news : List Value) (hl : news.length = m * i.size) (hnews : ∀ j u, news[j]? = some u → w.cell? (a.add j) = some u) (h1 : ∀ u ∈ news, u.oneCell' = true)
    (hroom : sLen + m ≤ sCap) (hfit : off + sLen * i.size + news.length ≤ cur.size) :
    (Builtin.append_ #[t, t] ty #[.slice (some ⟨g, off, none⟩) sLen sCap, .slice (some a) m c]).run P w =
      .ok (.slice (some ⟨g, off, none⟩) (sLen + m) sCap) (w.setRow g (cur.toList.take (off + sLen * i.size) ++ news ++ cur.toList.drop (off + sLen * i.size + news.length)).toArray) := by
  have hf := run_firstCells_some (P := P) w i.size m a m c news hl hnews
  have hst := run_storeCells_at P g (off + sLen * i.size) e news 0 cur w hg (by simpa using hfit) h1
  simp only [Nat.add_zero] at hst
  simp [Builtin.append_, run_underlying ht, sizeOf, typeInfo, hi, Builtin.lenOf, hroom, hf, Addr.add_lit, hst]

/-- An append to such a slice. -/
theorem sub_app {P : Program} (w : World) (t ty e : TypeId) (z : Value) (size bytes : Nat) (ht : P.underlying t = some (.slice e))
    (hi : (P.info? e).map (fun i => (i.zero, i.size, i.bytes)) = some (some z, size, bytes)) (hzs : z.cells.size = size) (hsz : 0 < size) (hby : 0 < bytes)
    (v : Value) (n : Nat) (xs : List Value) (h : SubV w e size v n xs)
    (ad : Addr) (m c : Nat) (news : List Value) (hl : news.length = m * size) (hnews : ∀ j u, news[j]? = some u → w.cell? (ad.add j) = some u) (h1 : ∀ u ∈ news, u.oneCell' = true) (hm : 0 < m)
    (hbytes : (n + m) * bytes ≤ 140737488355328) :
    ∃ b off cap w', (Builtin.append_ #[t, t] ty #[v, .slice (some ad) m c]).run P w = .ok (.slice (some ⟨b, off, none⟩) (n + m) cap) w' ∧
      SubV w' e size (.slice (some ⟨b, off, none⟩) (n + m) cap) (n + m) (xs ++ news) ∧ Only (fun k => v.ownBlock = some k) w w' ∧ (v.ownBlock = some b ∨ w.heap.size ≤ b) := by
  have hown0 : ∀ xs', SubV w e size v n xs' → v = .slice none 0 0 → w.ownsRow 0 e size v n xs' := by
    rintro xs' ⟨h1, h2⟩ rfl
    refine ⟨h1, .inl ⟨rfl, ?_⟩⟩
    rcases h2 with ⟨_, h2⟩ | ⟨b, off, cap, cur, hv, _⟩
    · exact h2
    · cases hv
  rcases h.2 with ⟨rfl, rfl⟩ | ⟨b, off, cap, cur, rfl, hh, hn, hcm, hz, htk⟩
  · obtain ⟨sa, cap, w', hr, ho, hO, hk⟩ := app_run (P := P) w t ty e z size bytes ht hi hzs hsz hby none 0 0 xs (hown0 xs h rfl) ad m c news hl hnews h1 hbytes
    have hS := SubV.of_own ho
    rcases hS.2 with ⟨h2, h3⟩ | ⟨b, off, cap', cur, h2, h3, _⟩
    · omega
    · simp only [Value.slice.injEq, true_and] at h2
      obtain ⟨rfl, rfl⟩ := h2
      exact ⟨b, off, cap, w', hr, hS, hO, by rcases hk b rfl with h4 | h4; exact .inl h4; exact .inr h4⟩
  · obtain ⟨i, hi', hz', hsize, hbb⟩ := info_parts hi
    have hnm : n + m ≤ 140737488355328 := Nat.le_trans (Nat.le_mul_of_pos_right _ hby) hbytes
    by_cases hroom : n + m ≤ cap
    · have hmul : (n + m) * size ≤ cap * size := Nat.mul_le_mul_right _ hroom
      have hadd : (n + m) * size = n * size + m * size := Nat.add_mul _ _ _
      have hr := run_append_sub_room (P := P) w t ty e i ht hi' b off n cap cur hh ad m c news (by rw [hsize]; exact hl) hnews h1 hroom (by rw [hsize, hl]; omega)
      rw [hsize] at hr
      refine ⟨b, off, cap, _, hr, ⟨by rw [List.length_append, h.1, hl, Nat.add_mul], .inr ⟨b, off, cap, _, rfl, setRow_heap w b cur _ e _ hh, hroom, hcm, ?_, ?_⟩⟩, ⟨rfl, rfl, rfl, by simp, fun k _ hk => setRow_other w b k _ (fun e => hk (by simp [Value.ownBlock, e]))⟩, .inl rfl⟩
      · simp only [List.size_toArray, List.length_append, List.length_take, List.length_drop, Array.length_toList]
        omega
      · simp only []
        have hA : (cur.toList.take (off + n * size)).drop off = xs := by rw [← htk, List.drop_take]; congr 1; omega
        have hlen : (cur.toList.take (off + n * size)).length = off + n * size := by rw [List.length_take, Array.length_toList]; omega
        rw [List.append_assoc, List.drop_append_of_le_length (by rw [hlen]; omega), hA, ← List.append_assoc, hadd]
        have : (xs ++ news).length = n * size + m * size := by rw [List.length_append, h.1, hl]
        rw [List.take_append_of_le_length (by omega), List.take_of_length_le (by omega)]
    · have holds : ∀ j u, xs[j]? = some u → w.cell? ((⟨b, off, none⟩ : Addr).add j) = some u := by
        intro j u hj
        have := h.rd
        obtain ⟨a, c', hv, hr⟩ := this
        simp only [Value.slice.injEq, true_and] at hv
        obtain ⟨rfl, rfl⟩ := hv
        rcases hr with ⟨_, rfl⟩ | ⟨b', off', e1, hr⟩
        · cases hj
        · simp only [Option.some.injEq, Addr.mk.injEq, and_true] at e1
          obtain ⟨rfl, rfl⟩ := e1
          rw [Addr.add_lit]; exact hr j u hj
      obtain ⟨v', w', hr, h2, h3⟩ := run_append_arg_grows (P := P) w t ty e i z size bytes ht hi' hz' hsize hbb hzs hsz ⟨b, off, none⟩ n cap xs h.1 holds ad m c news hl hnews (by omega) (by unfold maxLen; omega) hbytes
      rcases h2.2 with ⟨h4, h5⟩ | ⟨g, cap', cur', h4, h5, h6, h7, h8, h9, h10⟩
      · omega
      · subst h4
        refine ⟨g, 0, cap', w', hr, ⟨h2.1, .inr ⟨g, 0, cap', cur', rfl, h6, h7, h8, by omega, by simpa using h10⟩⟩, (Only.of_grown h3).mono (fun k _ e => by cases e), .inr h5⟩

/-- The same as a step of the walk. -/
theorem wpList_appSub {P : Program} {w : World} {ops : Array Oper} {rest : List Oper} {o : Oper} {a : Act} {Q : Exit → Act → World → Prop} (hgd : o.guard = none) (s x : Operand) (t : TypeId)
    (ho : o.op = .call { callee := .builtin .append, args := #[s, x], argTypes := #[t, t] })
    (e : TypeId) (z : Value) (size bytes : Nat) (ht : P.underlying t = some (.slice e))
    (hi : (P.info? e).map (fun i => (i.zero, i.size, i.bytes)) = some (some z, size, bytes)) (hzs : z.cells.size = size) (hsz : 0 < size) (hby : 0 < bytes)
    (v : Value) (n : Nat) (xs : List Value) (hown : SubV w e size v n xs) (hs : a.eval s = v)
    (ad : Addr) (m c : Nat) (news : List Value) (hx : a.eval x = .slice (some ad) m c) (hl : news.length = m * size) (hnews : ∀ j u, news[j]? = some u → w.cell? (ad.add j) = some u) (h1 : ∀ u ∈ news, u.oneCell' = true) (hm : 0 < m)
    (hbytes : (n + m) * bytes ≤ 140737488355328)
    (h : ∀ b off cap w', SubV w' e size (.slice (some ⟨b, off, none⟩) (n + m) cap) (n + m) (xs ++ news) → Only (fun k => v.ownBlock = some k) w w' → (v.ownBlock = some b ∨ w.heap.size ≤ b) →
      wpList P ops Q rest (a.put o.dst (.slice (some ⟨b, off, none⟩) (n + m) cap)) w') :
    wpList P ops Q (o :: rest) a w := by
  refine wpList_plain hgd fun K hK => ?_
  obtain ⟨b, off, cap, w', hr, h2, h3, h4⟩ := sub_app (P := P) w t o.type e z size bytes ht hi hzs hsz hby v n xs hown ad m c news hl hnews h1 hm hbytes
  unfold Oper.wp execOp
  simp only [ho, resolve, invoke, builtin, Sem.run_bind, Sem.run_pure, Result.andThen_ok, List.map_toArray, List.map_cons, List.map_nil, hs, hx, hr]
  exact hK _ _ (h b off cap w' h2 h3 h4)
/-- The same as a step of a region that draws its order. -/
theorem step_appSub {P : Program} {w : World} {ops : Array Oper} {o : Oper} {a : Act} {K : Act → World → Prop} {Q : Exit → Act → World → Prop} {E : Prop} (hgd : o.guard = none) (s x : Operand) (t : TypeId)
    (ho : o.op = .call { callee := .builtin .append, args := #[s, x], argTypes := #[t, t] })
    (e : TypeId) (z : Value) (size bytes : Nat) (ht : P.underlying t = some (.slice e))
    (hi : (P.info? e).map (fun i => (i.zero, i.size, i.bytes)) = some (some z, size, bytes)) (hzs : z.cells.size = size) (hsz : 0 < size) (hby : 0 < bytes)
    (v : Value) (n : Nat) (xs : List Value) (hown : SubV w e size v n xs) (hs : a.eval s = v)
    (ad : Addr) (m c : Nat) (news : List Value) (hx : a.eval x = .slice (some ad) m c) (hl : news.length = m * size) (hnews : ∀ j u, news[j]? = some u → w.cell? (ad.add j) = some u) (h1 : ∀ u ∈ news, u.oneCell' = true) (hm : 0 < m)
    (hbytes : (n + m) * bytes ≤ 140737488355328)
    (h : ∀ b off cap w', SubV w' e size (.slice (some ⟨b, off, none⟩) (n + m) cap) (n + m) (xs ++ news) → Only (fun k => v.ownBlock = some k) w w' → (v.ownBlock = some b ∨ w.heap.size ≤ b) →
      K (a.put o.dst (.slice (some ⟨b, off, none⟩) (n + m) cap)) w') :
    if Region.wanted o (yielded ops a.tmps) = true then Oper.wp P o a w K Q else E := by
  have hw : Region.wanted o (yielded ops a.tmps) = true := by simp [Region.wanted, hgd]
  rw [if_pos hw]
  obtain ⟨b, off, cap, w', hr, h2, h3, h4⟩ := sub_app (P := P) w t o.type e z size bytes ht hi hzs hsz hby v n xs hown ad m c news hl hnews h1 hm hbytes
  unfold Oper.wp execOp
  simp only [ho, resolve, invoke, builtin, Sem.run_bind, Sem.run_pure, Result.andThen_ok, List.map_toArray, List.map_cons, List.map_nil, hs, hx, hr]
  exact h b off cap w' h2 h3 h4
/-- An append to a row of the call's own as a step of a region that draws its order. -/
theorem step_app2 {P : Program} {w : World} {ops : Array Oper} {o : Oper} {a : Act} {K : Act → World → Prop} {Q : Exit → Act → World → Prop} {E : Prop} (hgd : o.guard = none) (s x : Operand) (t : TypeId)
    (ho : o.op = .call { callee := .builtin .append, args := #[s, x], argTypes := #[t, t] })
    (e : TypeId) (z : Value) (size bytes : Nat) (ht : P.underlying t = some (.slice e))
    (hi : (P.info? e).map (fun i => (i.zero, i.size, i.bytes)) = some (some z, size, bytes)) (hzs : z.cells.size = size) (hsz : 0 < size) (hby : 0 < bytes)
    (sa : Option Addr) (n cap : Nat) (xs : List Value) (hown : w.ownsRow 0 e size (.slice sa n cap) n xs) (hs : a.eval s = .slice sa n cap)
    (ad : Addr) (m c : Nat) (news : List Value) (hx : a.eval x = .slice (some ad) m c) (hl : news.length = m * size) (hnews : ∀ j u, news[j]? = some u → w.cell? (ad.add j) = some u) (h1 : ∀ u ∈ news, u.oneCell' = true)
    (hbytes : (n + m) * bytes ≤ 140737488355328)
    (h : ∀ sa' cap' w', w'.ownsRow 0 e size (.slice sa' (n + m) cap') (n + m) (xs ++ news) → Only (fun k => Value.ownBlock (.slice sa n cap) = some k) w w' →
      (∀ k, Value.ownBlock (.slice sa' (n + m) cap') = some k → Value.ownBlock (.slice sa n cap) = some k ∨ w.heap.size ≤ k) → K (a.put o.dst (.slice sa' (n + m) cap')) w') :
    if Region.wanted o (yielded ops a.tmps) = true then Oper.wp P o a w K Q else E := by
  have hw : Region.wanted o (yielded ops a.tmps) = true := by simp [Region.wanted, hgd]
  rw [if_pos hw]
  obtain ⟨sa', cap', w', hr, h2, h3, h4⟩ := app_run (P := P) w t o.type e z size bytes ht hi hzs hsz hby sa n cap xs hown ad m c news hl hnews h1 hbytes
  unfold Oper.wp execOp
  simp only [ho, resolve, invoke, builtin, Sem.run_bind, Sem.run_pure, Result.andThen_ok, List.map_toArray, List.map_cons, List.map_nil, hs, hx, hr]
  exact h sa' cap' w' h2 h3 h4
/-- The two cells of a pair that has just been boxed in block g, as what is appended. -/
theorem news_two {w : World} {g : Nat} {x y : Value} (h0 : w.cell? ⟨g, 0, none⟩ = some x) (h1 : w.cell? ⟨g, 1, none⟩ = some y) : ∀ j u, [x, y][j]? = some u → w.cell? ((⟨g, 0, none⟩ : Addr).add j) = some u := by
  intro j u hj
  match j, hj with
  | 0, hj => simp at hj; subst hj; simpa [Addr.add] using h0
  | 1, hj => simp at hj; subst hj; simpa [Addr.add] using h1
  | j + 2, hj => simp at hj
end Go.Proofs.Ytikjpklbbjmioaa
