/- Append of all that a slice reads; clones of slices. The program's device: bytesOf, Current, Persisted, History, Dirty. The program's device: Image. The program's device: the walk of Image. The program's device: of, New. -/
import Derived.Test.YtjmdibgncaljaaaD3
import Derived.Deep.Upon
import Derived.WalkSpells
import Derived.Test.YtjmdibgncaljaaaD11
import Derived.Deep.RegionWith
import Derived.IntWalk
import Derived.Deep.DeepCutAuto
import Derived.Deep.RegionHeld3
namespace Go.Proofs.Ytjmdibgncaljaaa.Dev
open Go.RowKit Go.Maps

theorem appAll_run {P : Program} (w : World) (t ty e : TypeId) (z : Value) (size bytes : Nat) (ht : P.underlying t = some (.slice e))
    (hi : (P.info? e).map (fun i => (i.zero, i.size, i.bytes)) = some (some z, size, bytes)) (hzs : z.cells.size = size) (hsz : 0 < size) (hby : 0 < bytes)
    (sa : Option Addr) (n cap : Nat) (hcap : n ≤ cap) (xs : List Value) (hown : w.ownsRow 0 e size (.slice sa n cap) n xs)
    (xa : Option Addr) (m c : Nat) (news : List Value) (hrd : Rd w (.slice xa m c) m news) (hl : news.length = m * size) (h1 : ∀ u ∈ news, u.oneCell' = true)
    (hbytes : (n + m) * bytes ≤ 140737488355328) :
    ∃ sa' cap' w', (Builtin.append_ #[t, t] ty #[.slice sa n cap, .slice xa m c]).run P w = .ok (.slice sa' (n + m) cap') w' ∧ n + m ≤ cap' ∧ w'.ownsRow 0 e size (.slice sa' (n + m) cap') (n + m) (xs ++ news) ∧
      Only (fun k => Value.ownBlock (.slice sa n cap) = some k) w w' ∧ (∀ k, Value.ownBlock (.slice sa' (n + m) cap') = some k → Value.ownBlock (.slice sa n cap) = some k ∨ w.heap.size ≤ k) := by
  obtain ⟨xa', c', hxe, hrd⟩ := hrd
  simp only [Value.slice.injEq, true_and] at hxe
  obtain ⟨rfl, rfl⟩ := hxe
  have capok : ∀ sa' cap' (w' : World) ys, w'.ownsRow 0 e size (.slice sa' (n + m) cap') (n + m) ys → n + m ≤ cap' := by
    intro sa' cap' w' ys ho
    rcases ho.2 with ⟨h1, h2⟩ | ⟨g, cap2, cur, h1, _, _, h2, _⟩
    · omega
    · simp only [Value.slice.injEq] at h1
      obtain ⟨_, _, rfl⟩ := h1
      exact h2
  cases xa with
  | none =>
    have hm : m = 0 ∧ news = [] := by
      rcases hrd with h0 | ⟨b, off, h0, _⟩
      · exact h0
      · cases h0
    obtain ⟨rfl, rfl⟩ := hm
    obtain ⟨i, hi2, hz, hsize, hbb⟩ := info_parts hi
    exact ⟨sa, cap, w, run_append_nothing (P := P) w t t ty e i ht hi2 sa n cap hcap (.slice none 0 c) (Src.ofNil w ht c), hcap, by simpa using hown, Only.refl _ w, fun k hk => .inl hk⟩
  | some ad =>
    have hnews : ∀ j u, news[j]? = some u → w.cell? (ad.add j) = some u := by
      rcases hrd with ⟨_, h0⟩ | ⟨b, off, h0, hc⟩
      · subst h0; intro j u hj; simp at hj
      · simp only [Option.some.injEq] at h0
        subst h0
        intro j u hj
        have := hc j u hj
        unfold Addr.add
        split
        · simp_all
        · simpa using this
    obtain ⟨sa', cap', w', hr, h2, h3, h4⟩ := app_run (P := P) w t ty e z size bytes ht hi hzs hsz hby sa n cap xs hown ad m c news hl hnews h1 hbytes
    exact ⟨sa', cap', w', hr, capok sa' cap' w' _ h2, h2, h3, h4⟩
theorem wpList_appAll {P : Program} {w : World} {ops : Array Oper} {rest : List Oper} {o : Oper} {a : Act} {Q : Exit → Act → World → Prop} (hgd : o.guard = none) (s x : Operand) (t : TypeId)
    (ho : o.op = .call { callee := .builtin .append, args := #[s, x], argTypes := #[t, t] })
    (e : TypeId) (z : Value) (size bytes : Nat) (ht : P.underlying t = some (.slice e))
    (hi : (P.info? e).map (fun i => (i.zero, i.size, i.bytes)) = some (some z, size, bytes)) (hzs : z.cells.size = size) (hsz : 0 < size) (hby : 0 < bytes)
    (sa : Option Addr) (n cap : Nat) (hcap : n ≤ cap) (xs : List Value) (hown : w.ownsRow 0 e size (.slice sa n cap) n xs) (hs : a.eval s = .slice sa n cap)
    (xa : Option Addr) (m c : Nat) (news : List Value) (hx : a.eval x = .slice xa m c) (hrd : Rd w (.slice xa m c) m news) (hl : news.length = m * size) (h1 : ∀ u ∈ news, u.oneCell' = true)
    (hbytes : (n + m) * bytes ≤ 140737488355328)
    (h : ∀ sa' cap' w', n + m ≤ cap' → w'.ownsRow 0 e size (.slice sa' (n + m) cap') (n + m) (xs ++ news) → Only (fun k => Value.ownBlock (.slice sa n cap) = some k) w w' →
      (∀ k, Value.ownBlock (.slice sa' (n + m) cap') = some k → Value.ownBlock (.slice sa n cap) = some k ∨ w.heap.size ≤ k) → wpList P ops Q rest (a.put o.dst (.slice sa' (n + m) cap')) w') :
    wpList P ops Q (o :: rest) a w := by
  refine wpList_plain hgd fun K hK => ?_
  obtain ⟨sa', cap', w', hr, h0, h2, h3, h4⟩ := appAll_run (P := P) w t o.type e z size bytes ht hi hzs hsz hby sa n cap hcap xs hown xa m c news hrd hl h1 hbytes
  unfold Oper.wp execOp
  simp only [ho, resolve, invoke, builtin, Sem.run_bind, Sem.run_pure, Result.andThen_ok, List.map_toArray, List.map_cons, List.map_nil, hs, hx, hr]
  exact hK _ _ (h sa' cap' w' h0 h2 h3 h4)
theorem step_appAll {P : Program} {w : World} {ops : Array Oper} {o : Oper} {a : Act} {K : Act → World → Prop} {Q : Exit → Act → World → Prop} {E : Prop} (hgd : o.guard = none) (s x : Operand) (t : TypeId)
    (ho : o.op = .call { callee := .builtin .append, args := #[s, x], argTypes := #[t, t] })
    (e : TypeId) (z : Value) (size bytes : Nat) (ht : P.underlying t = some (.slice e))
    (hi : (P.info? e).map (fun i => (i.zero, i.size, i.bytes)) = some (some z, size, bytes)) (hzs : z.cells.size = size) (hsz : 0 < size) (hby : 0 < bytes)
    (sa : Option Addr) (n cap : Nat) (hcap : n ≤ cap) (xs : List Value) (hown : w.ownsRow 0 e size (.slice sa n cap) n xs) (hs : a.eval s = .slice sa n cap)
    (xa : Option Addr) (m c : Nat) (news : List Value) (hx : a.eval x = .slice xa m c) (hrd : Rd w (.slice xa m c) m news) (hl : news.length = m * size) (h1 : ∀ u ∈ news, u.oneCell' = true)
    (hbytes : (n + m) * bytes ≤ 140737488355328)
    (h : ∀ sa' cap' w', n + m ≤ cap' → w'.ownsRow 0 e size (.slice sa' (n + m) cap') (n + m) (xs ++ news) → Only (fun k => Value.ownBlock (.slice sa n cap) = some k) w w' →
      (∀ k, Value.ownBlock (.slice sa' (n + m) cap') = some k → Value.ownBlock (.slice sa n cap) = some k ∨ w.heap.size ≤ k) → K (a.put o.dst (.slice sa' (n + m) cap')) w') :
    if Region.wanted o (yielded ops a.tmps) = true then Oper.wp P o a w K Q else E := by
  have hw : Region.wanted o (yielded ops a.tmps) = true := by simp [Region.wanted, hgd]
  rw [if_pos hw]
  obtain ⟨sa', cap', w', hr, h0, h2, h3, h4⟩ := appAll_run (P := P) w t o.type e z size bytes ht hi hzs hsz hby sa n cap hcap xs hown xa m c news hrd hl h1 hbytes
  unfold Oper.wp execOp
  simp only [ho, resolve, invoke, builtin, Sem.run_bind, Sem.run_pure, Result.andThen_ok, List.map_toArray, List.map_cons, List.map_nil, hs, hx, hr]
  exact h sa' cap' w' h0 h2 h3 h4
/-- An empty slice that is not nil. -/
theorem own_empty (w : World) (T : TypeId) (size : Nat) : (w.alloc (.cells #[] T)).ownsRow 0 T size (.slice (some ⟨w.heap.size, 0, none⟩) 0 0) 0 [] :=
  ⟨by simp, .inr ⟨w.heap.size, 0, #[], rfl, Nat.zero_le _, heap_alloc_new, Nat.le_refl _, by decide, by simp, by simp⟩⟩

def ClonePost (w : World) (T size n : Nat) (xs : List Value) (e : Ending) (w' : World) : Prop :=
  ∃ a c, e = .returned (.slice a n c) ∧ w'.ownsRow 0 T size (.slice a n c) n xs ∧ Below w.heap.size w w' ∧ ∀ k, Value.ownBlock (.slice a n c) = some k → w.heap.size ≤ k
theorem u64s_one (l : List Nat) : ∀ u ∈ u64s l, u.oneCell' = true := by
  intro u hu; unfold u64s at hu; simp only [List.mem_map] at hu; obtain ⟨n, _, rfl⟩ := hu; rfl
theorem wcells_one (l : List (Nat × Nat)) : ∀ u ∈ wcells l, u.oneCell' = true := by
  intro u hu; unfold wcells at hu; simp only [List.mem_flatMap] at hu; obtain ⟨p, _, hu⟩ := hu
  simp only [List.mem_cons, List.not_mem_nil, or_false] at hu
  rcases hu with rfl | rfl <;> rfl

set_option maxHeartbeats 1000000 in
set_option maxRecDepth 100000 in
theorem cloneU_any (w : World) (b off c : Nat) (ws : List Nat) (hr : Rd w (.slice (some ⟨b, off, none⟩) ws.length c) ws.length (u64s ws)) (hl : ws.length ≤ 1000000) :
    Calls Try.prog 24 #[.slice (some ⟨b, off, none⟩) ws.length c] w (ClonePost w 27 1 ws.length (u64s ws)) := by
  generalize hpost : ClonePost w 27 1 ws.length (u64s ws) = post
  replace hpost := Lib.hid hpost
  have he := own_empty w 27 1
  have hrA : Rd (w.alloc (.cells #[] 27)) (.slice (some ⟨b, off, none⟩) ws.length c) ws.length (u64s ws) := hr.kept ((Below.refl _ _).alloc (Nat.le_refl _) _)
  have heq := fun (w : World) (a : Option Addr) (n c : Nat) => Lib.run_eql_slice_nil (P := Try.prog) w 70 27 a n c 0 0 Try.underlying70
  go_enter Try.func24, Try.ntmps24
  go_wp2_with (at_builtin; refine wpList_appAll rfl (.tmp 5) (.tmp 6) 70 rfl 27 (.int .u64 0) 1 8 Try.underlying70 infoU64 rfl (by decide) (by decide) _ 0 0 (Nat.le_refl _) [] he rfl _ ws.length c (u64s ws) rfl hrA (by rw [u64s_len, Nat.mul_one]) (u64s_one ws) (by omega) ?_; intro sa cap w1 hcap hown1 only1 fresh1)
  have hfin : post (.returned (.slice sa ws.length cap)) w1 := by
    rw [← hpost.out]
    rw [Nat.zero_add] at hown1 fresh1
    refine ⟨_, _, rfl, by simpa using hown1, ((Below.refl w.heap.size w).alloc (Nat.le_refl _) _).trans (only1.below (by simp) (fun k hk e => by simp [Value.ownBlock] at e; omega)), fun k hk => ?_⟩
    rcases fresh1 k hk with h1 | h1
    · simp [Value.ownBlock] at h1; omega
    · simp at h1; omega
  replace hfin := Lib.hid hfin
  clear hown1 only1 fresh1 he hrA hr hcap
  go_wp2_with fail
  exact hfin.out
set_option maxHeartbeats 1000000 in
set_option maxRecDepth 100000 in
theorem cloneW_any (w : World) (v : Value) (ws : List (Nat × Nat)) (hs : SubV w 133 2 v ws.length (wcells ws)) (hl : ws.length ≤ 1000000) :
    Calls Try.prog 107 #[v] w (ClonePost w 133 2 ws.length (wcells ws)) := by
  generalize hpost : ClonePost w 133 2 ws.length (wcells ws) = post
  rcases hs.2 with ⟨rfl, h0⟩ | ⟨b, off, c, _, rfl, _⟩
  · obtain rfl : ws = [] := List.eq_nil_of_length_eq_zero h0
    have hfin : post (.returned (.slice none 0 0)) w := by
      rw [← hpost]; exact ⟨none, 0, rfl, World.ownsRow_nil _ _ _ _, Below.refl _ _, fun k hk => by cases hk⟩
    replace hfin := Lib.hid hfin
    clear hpost hs
    have heq := fun (w : World) (a : Option Addr) (n c : Nat) => Lib.run_eql_slice_nil (P := Try.prog) w 88 133 a n c 0 0 Try.underlying88
    go_enter Try.func107, Try.ntmps107
    go_wp2_with fail
    exact hfin.out
  · have hr := hs.rd
    have he := own_empty w 133 2
    have hrA : Rd (w.alloc (.cells #[] 133)) (.slice (some ⟨b, off, none⟩) ws.length c) ws.length (wcells ws) := hr.kept ((Below.refl _ _).alloc (Nat.le_refl _) _)
    replace hpost := Lib.hid hpost
    clear hs hr
    have heq := fun (w : World) (a : Option Addr) (n c : Nat) => Lib.run_eql_slice_nil (P := Try.prog) w 88 133 a n c 0 0 Try.underlying88
    go_enter Try.func107, Try.ntmps107
    go_wp2_with (at_builtin; refine wpList_appAll rfl (.tmp 5) (.tmp 6) 88 rfl 133 (.agg #[.int .u64 0, .int .u64 0]) 2 16 Try.underlying88 infoW rfl (by decide) (by decide) _ 0 0 (Nat.le_refl _) [] he rfl _ ws.length c (wcells ws) rfl hrA (wcells_len ws) (wcells_one ws) (by omega) ?_; intro sa cap w1 hcap hown1 only1 fresh1)
    have hfin : post (.returned (.slice sa ws.length cap)) w1 := by
      rw [← hpost.out]
      rw [Nat.zero_add] at hown1 fresh1
      refine ⟨_, _, rfl, by simpa using hown1, ((Below.refl w.heap.size w).alloc (Nat.le_refl _) _).trans (only1.below (by simp) (fun k hk e => by simp [Value.ownBlock] at e; omega)), fun k hk => ?_⟩
      rcases fresh1 k hk with h1 | h1
      · simp [Value.ownBlock] at h1; omega
      · simp at h1; omega
    replace hfin := Lib.hid hfin
    clear hown1 only1 fresh1 he hrA hcap
    go_wp2_with fail
    exact hfin.out
end Go.Proofs.Ytjmdibgncaljaaa.Dev

/-! The program's device: bytesOf, Current, Persisted, History, Dirty. -/
namespace Go.Proofs.Ytjmdibgncaljaaa.Dev
open Go.RowKit Go.Maps
variable {w : World} {F : Own} {o T : Nat} {L : Lay} {R : Dv}

def bytesL (ws : List Nat) : List Nat := (List.range (ws.length * 8)).map fun i => ws.getD (i / 8) 0 / 2 ^ (i % 8 * 8) % 256
theorem bytesL_len (ws : List Nat) : (bytesL ws).length = ws.length * 8 := by simp [bytesL]
theorem bytesL_get (ws : List Nat) (i : Nat) (h : i < ws.length * 8) : (bytesL ws)[i]? = some (ws.getD (i / 8) 0 / 2 ^ (i % 8 * 8) % 256) := by
  unfold bytesL; rw [List.getElem?_map, List.getElem?_range h]; rfl
/-- The first k of these, and zeros behind. -/
def fillTo (bs : List Nat) (n k : Nat) : List Nat := bs.take k ++ List.replicate (n - k) 0
theorem fillTo_zero (bs : List Nat) (n : Nat) : fillTo bs n 0 = List.replicate n 0 := by simp [fillTo]
theorem fillTo_all (bs : List Nat) (n : Nat) (h : bs.length = n) : fillTo bs n n = bs := by simp [fillTo, ← h]
theorem fillTo_len (bs : List Nat) (n k : Nat) (h : bs.length = n) (hk : k ≤ n) : (fillTo bs n k).length = n := by simp [fillTo, h]; omega
theorem fillTo_set (bs : List Nat) (n k b : Nat) (h : bs.length = n) (hk : k < n) (hb : bs[k]? = some b) : (fillTo bs n k).set k b = fillTo bs n (k + 1) := by
  unfold fillTo
  have hl : (bs.take k).length = k := by rw [List.length_take]; omega
  rw [List.set_append_right _ _ (by omega), hl, Nat.sub_self, List.take_add_one, hb]
  obtain ⟨m, hm⟩ : ∃ m, n - k = m + 1 := ⟨n - k - 1, by omega⟩
  have hm2 : n - (k + 1) = m := by omega
  rw [hm, hm2, List.replicate_succ, List.set_cons_zero, Option.toList_some, List.append_assoc]; rfl
theorem u8s_set (l : List Nat) (i v : Nat) : u8s (l.set i v) = (u8s l).set i (.int .u8 (v : Int)) := by unfold u8s; rw [List.map_set]
theorem u8s_rep (n : Nat) : u8s (List.replicate n 0) = List.replicate n (.int .u8 0) := by simp [u8s]

def BytesPost (w : World) (bs : List Nat) (e : Ending) (w' : World) : Prop :=
  ∃ b, e = .returned (.slice (some ⟨b, 0, none⟩) bs.length bs.length) ∧ Has w' b (u8s bs) 5 ∧ Below w.heap.size w w' ∧ w.heap.size ≤ b
set_option maxHeartbeats 2000000 in
set_option maxRecDepth 100000 in
theorem bytesOf_any (w : World) (b0 off c : Nat) (ws : List Nat) (m : Nat) (hm : ws.length = m) (hr : Rd w (.slice (some ⟨b0, off, none⟩) m c) m (u64s ws)) (hl : m ≤ 1000000) (h1 : 1 ≤ m) (hlt : ∀ x ∈ ws, x < 18446744073709551616) :
    Calls Try.prog 105 #[.slice (some ⟨b0, off, none⟩) m c] w (BytesPost w (bytesL ws)) := by
  generalize hpost : BytesPost w (bytesL ws) = post
  have hbl : (bytesL ws).length = m * 8 := by rw [bytesL_len, hm]
  have hmk := make1 (P := Try.prog) 28 5 (.int .u8 0) 1 Try.underlying28 infoU8 rfl (m * 8) (by omega) (by omega) w
  rw [show ((m * 8 : Nat) : Int) = (m : Int) * 8 from by simp] at hmk
  have h0 : Has (w.alloc (.cells (Array.replicate (m * 8) (.int .u8 0)) 5)) w.heap.size (u8s (fillTo (bytesL ws) (m * 8) 0)) 5 := by
    rw [fillTo_zero, u8s_rep]; exact Has.rep _ _ _ _
  have hB0 := (Below.refl w.heap.size w).alloc (Nat.le_refl _) (.cells (Array.replicate (m * 8) (.int .u8 0)) 5)
  have hend : ∀ w', Has w' w.heap.size (u8s (bytesL ws)) 5 → Below w.heap.size w w' → post (.returned (.slice (some ⟨w.heap.size, 0, none⟩) (m * 8) (m * 8))) w' := by
    intro w' p1 p2
    rw [← hpost, ← hbl]; exact ⟨_, rfl, p1, p2, Nat.le_refl _⟩
  replace hend := Lib.hid hend
  replace hbl := Lib.hid hbl
  clear hpost
  replace hm := Lib.hid hm
  go_enter Try.func105, Try.ntmps105
  go_wp2_with fail
  go_loopw [11] (fun i wr => ∃ k : Nat, k ≤ m * 8 ∧ i = .int .i64 k ∧ Has wr w.heap.size (u8s (fillTo (bytesL ws) (m * 8) k)) 5 ∧ Below w.heap.size w wr) (fun i _ => m * 8 - (intOf i).toNat)
  case atStart => exact ⟨0, Nat.zero_le _, rfl, h0, hB0⟩
  case round =>
    clear h0 hB0 hmk
    obtain ⟨k, hk, rfl, hH, hB⟩ := hrel
    by_cases hlt2 : k < m * 8
    · have hkI : (k : Int) < (m : Int) * 8 := by omega
      have hk8I : ((k / 8 : Nat) : Int) < (m : Int) := by omega
      have hws : ws[k / 8]? = some (ws.getD (k / 8) 0) := get_of_lt 0 (by rw [hm.out]; omega)
      have hbg := bytesL_get ws k (by rw [hm.out]; omega)
      have hvl := hlt _ (List.mem_of_getElem? hws)
      obtain ⟨bl, ol, cl, ea, fa⟩ := (hr.kept hB).cells (by omega)
      simp only [Value.slice.injEq, Option.some.injEq, Addr.mk.injEq, true_and, and_true] at ea
      obtain ⟨⟨rfl, rfl⟩, rfl⟩ := ea
      have c0 : wr.cell? ⟨b0, off + k / 8, none⟩ = _ := fa _ _ (u64s_get ws _ _ hws)
      have hset := fillTo_set (bytesL ws) (m * 8) k _ hbl.out hlt2 hbg
      have hfl := fillTo_len (bytesL ws) (m * 8) k hbl.out (by omega)
      have cp := hH.cell (o := k) (u8s_get _ k _ (get_of_lt 0 (by rw [hfl]; exact hlt2)))
      have fp := hH.free k
      have hS := hH.set k (.int .u8 ((ws.getD (k / 8) 0 / 2 ^ (k % 8 * 8) % 256 : Nat) : Int))
      rw [← u8s_set, hset] at hS
      have hcast : ((ws.getD (k / 8) 0 / 2 ^ (k % 8 * 8) % 256 : Nat) : Int) = ((ws.getD (k / 8) 0 : Nat) : Int) / 2 ^ (k % 8 * 8) % 256 := by simp
      rw [hcast] at hS
      have hB2 := hB.setCell (p := ⟨w.heap.size, k, none⟩) (Nat.le_refl _) (.int .u8 (((ws.getD (k / 8) 0 : Nat) : Int) / 2 ^ (k % 8 * 8) % 256))
      replace hset := Lib.hid hset
      replace hfl := Lib.hid hfl
      replace hws := Lib.hid hws
      replace hbg := Lib.hid hbg
      replace hcast := Lib.hid hcast
      clear hH fa
      generalize (fillTo (bytesL ws) (m * 8) k).getD k 0 = old at *
      generalize ws.getD (k / 8) 0 = x at *
      go_wp2_with fail
      go_roundw
      case rel => exact ⟨k + 1, by omega, by go_num, hS, hB2⟩
      case measure => simp [intOf]; omega
    · obtain rfl : k = m * 8 := by omega
      rw [fillTo_all _ _ hbl.out] at hH
      have hx := Lib.hid (hend.out wr hH hB)
      clear hH
      go_wp2_with fail
      exact hx.out

theorem Dv.Ok.cur_lt (h : R.Ok T) : ∀ x ∈ R.curW, x < 18446744073709551616 := by
  intro x hx
  unfold Dv.curW at hx
  rw [List.mem_flatMap] at hx
  obtain ⟨l, hl, hx⟩ := hx
  obtain ⟨i, _, h1⟩ := h.at hl
  exact h1.words _ x hx
theorem Dv.Ok.per_lt (h : R.Ok T) : ∀ x ∈ R.perW, x < 18446744073709551616 := by
  intro x hx
  unfold Dv.perW at hx
  rw [List.mem_flatMap] at hx
  obtain ⟨l, hl, hx⟩ := hx
  obtain ⟨i, _, h1⟩ := h.at hl
  exact h1.bv x hx
theorem persisted_any (h : DevSt w F o L T R) : Calls Try.prog 91 #[.pointer (some ⟨L.g, 0, none⟩)] w (BytesPost w (bytesL R.perW)) := by
  generalize hpost : BytesPost w (bytesL R.perW) = post
  have c := h.dev.cell (o := 0) rfl
  have n1 := h.ok.n1
  have n2 := h.ok.n2
  have hb := Lib.hid (bytesOf_any w L.pb 0 L.pc R.perW (R.lines.length * 8) (by rw [h.ok.perLen]; omega) (Rd.of_own h.per) (by omega) (by omega) h.ok.per_lt)
  replace hpost := Lib.hid hpost
  clear h
  go_enter Try.func91, Try.ntmps91
  go_wp2_with fail
  refine hb.out.mono ?_
  rintro e w' ⟨b, rfl, hp⟩
  have hx : post (.returned (.slice (some ⟨b, 0, none⟩) (bytesL R.perW).length (bytesL R.perW).length)) w' := by rw [← hpost.out]; exact ⟨b, rfl, hp⟩
  replace hx := Lib.hid hx
  clear hp
  go_wp2_with fail
  exact hx.out

theorem history_any (h : DevSt w F o L T R) {i : Nat} (hi : i < R.lines.length) : Calls Try.prog 92 #[.pointer (some ⟨L.g, 0, none⟩), .int .i64 (i : Int)] w (ClonePost w 133 2 (R.line i).hist.length (wcells (R.line i).hist)) := by
  generalize hpost : ClonePost w 133 2 (R.line i).hist.length (wcells (R.line i).hist) = post
  have d2 := h.dev.cell (o := 2) rfl
  obtain ⟨cs, hv', hL, hcl, hlin⟩ := h.lin
  obtain ⟨x0, x1, hsub, hrole⟩ := hlin _ hi
  have l1 := hL.cell x1
  have hiI : (i : Int) < (R.lines.length : Int) := by omega
  have hi0 : (0 : Int) ≤ (i : Int) := by omega
  have hhl := (h.ok.ln i hi).hl
  have ht := h.ok.t
  have hb := Lib.hid (cloneW_any w (hv' i) (R.line i).hist hsub (by omega))
  replace hpost := Lib.hid hpost
  clear h hlin hsub hL x0 x1 hcl hrole
  generalize hv' i = v at *
  go_enter Try.func92, Try.ntmps92
  go_wp2_with fail
  refine hb.out.mono ?_
  rintro e w' ⟨a, c, rfl, hp⟩
  have hx : post (.returned (.slice a (R.line i).hist.length c)) w' := by rw [← hpost.out]; exact ⟨a, c, rfl, hp⟩
  replace hx := Lib.hid hx
  clear hp
  go_wp2_with fail
  exact hx.out
theorem history_out (h : DevSt w F o L T R) (i : Int) (hi : i < 0 ∨ (R.lines.length : Int) ≤ i) : Calls Try.prog 92 #[.pointer (some ⟨L.g, 0, none⟩), .int .i64 i] w fun e w' => e = .returned (.slice none 0 0) ∧ w = w' := by
  have d2 := h.dev.cell (o := 2) rfl
  clear h
  by_cases h0 : i < 0
  · have e1 : decide (i < 0) = true := decide_eq_true h0
    go_enter Try.func92, Try.ntmps92
    go_wp2_with fail
    go_ret
    exact ⟨rfl, rfl⟩
  · have e1 : decide (i < 0) = false := decide_eq_false h0
    have e2 : (R.lines.length : Int) ≤ i := by omega
    go_enter Try.func92, Try.ntmps92
    go_wp2_with fail
    go_ret
    exact ⟨rfl, rfl⟩

def dirtyTo (R : Dv) (k : Nat) : List Nat := (List.range k).filter fun i => decide (0 < (R.line i).hist.length)
def dirtyL (R : Dv) : List Nat := dirtyTo R R.lines.length
theorem dirtyTo_succ (R : Dv) (k : Nat) : dirtyTo R (k + 1) = if 0 < (R.line k).hist.length then dirtyTo R k ++ [k] else dirtyTo R k := by
  unfold dirtyTo
  rw [List.range_succ, List.filter_append]
  by_cases h : 0 < (R.line k).hist.length
  · simp [h]
  · simp [h]
theorem dirtyTo_len (R : Dv) (k : Nat) : (dirtyTo R k).length ≤ k := by
  unfold dirtyTo; exact Nat.le_trans (List.length_filter_le _ _) (by simp)
theorem dirtyTo_mem {R : Dv} {k i : Nat} (h : i ∈ dirtyTo R k) : i < k ∧ 0 < (R.line i).hist.length := by
  unfold dirtyTo at h; simpa using h
theorem nats_len (l : List Nat) : (nats l).length = l.length := by simp [nats]
theorem nats_snoc (l : List Nat) (n : Nat) : nats (l ++ [n]) = nats l ++ [.int .i64 (n : Int)] := by simp [nats]
def NewNats (w : World) (xs : List Nat) (e : Ending) (w' : World) : Prop :=
  ∃ a c, e = .returned (.slice a xs.length c) ∧ w'.ownsRow 0 3 1 (.slice a xs.length c) xs.length (nats xs) ∧ Below w.heap.size w w' ∧ ∀ k, Value.ownBlock (.slice a xs.length c) = some k → w.heap.size ≤ k
set_option maxHeartbeats 2000000 in
set_option maxRecDepth 100000 in
theorem dirty_any (h : DevSt w F o L T R) : Calls Try.prog 76 #[.pointer (some ⟨L.g, 0, none⟩)] w (NewNats w (dirtyL R)) := by
  generalize hpost : NewNats w (dirtyL R) = post
  have hn2 := h.ok.n2
  have d2 := h.dev.cell (o := 2) rfl
  obtain ⟨cs, hv', hL, hcl, hlin⟩ := h.lin
  have hlt2 := h.dev.lt
  have hLlt := hL.lt
  replace hpost := Lib.hid hpost
  replace hcl := Lib.hid hcl
  clear h
  have hi0 : w.ownsRow 0 3 1 (.slice none 0 0) 0 (nats (dirtyTo R 0)) := World.ownsRow_nil _ _ _ _
  go_enter Try.func76, Try.ntmps76
  go_wp2_with fail
  go_loopw [3, 12] (fun v i wr => ∃ (k : Nat) (a : Option Addr) (c : Nat), k ≤ R.lines.length ∧ i = .int .i64 k ∧ v = .slice a (dirtyTo R k).length c ∧ wr.ownsRow 0 3 1 (.slice a (dirtyTo R k).length c) (dirtyTo R k).length (nats (dirtyTo R k)) ∧ Below w.heap.size w wr ∧ ∀ j, Value.ownBlock (.slice a (dirtyTo R k).length c) = some j → w.heap.size ≤ j) (fun _ i _ => R.lines.length - (intOf i).toNat)
  case atStart => exact ⟨0, none, 0, Nat.zero_le _, rfl, rfl, hi0, Below.refl _ _, fun j hj => by cases hj⟩
  case round =>
    clear hi0
    obtain ⟨k, a, c, hk, rfl, rfl, hown, hB, hfr⟩ := hrel
    by_cases hlt : k < R.lines.length
    · have hkI : (k : Int) < (R.lines.length : Int) := by omega
      have hk0 : (0 : Int) ≤ (k : Int) := by omega
      obtain ⟨x0, x1, hsub, hrole⟩ := hlin _ hlt
      obtain ⟨va, vc, hva⟩ := hsub.slice
      have hLr := hL.only (Only.of_below hB) (by omega)
      have l1 := hLr.cell x1
      rw [hva] at l1
      have d2r := (Only.of_below hB).cell d2 (by show ¬ w.heap.size ≤ L.g; omega)
      have hsucc := dirtyTo_succ R k
      have hdl := dirtyTo_len R k
      replace hva := Lib.hid hva
      clear hLr hsub hrole x0 x1
      by_cases hq : 0 < (R.line k).hist.length
      · have hqI : (0 : Int) < ((R.line k).hist.length : Int) := by omega
        rw [if_pos hq] at hsucc
        replace hsucc := Lib.hid hsucc
        generalize hdd : dirtyTo R k = ds at *
        replace hdd := Lib.hid hdd
        have hby : (ds.length + 1) * 8 ≤ 140737488355328 := by omega
        go_wp2_with (at_builtin; refine wpList_app1 rfl (.tmp 25) (.tmp 27) 49 rfl 3 (.int .i64 0) 8 Try.underlying49 infoInt rfl (by decide) a ds.length c (nats ds) rfl (.int .i64 (k : Int)) _ _ rfl rfl hown _ rfl rfl (by simp [Value.oneCell']) hby ?_; intro sa cap w1 own1 only1 fresh1)
        have hB1 : Below w.heap.size w w1 := hB.trans (only1.below (B := w.heap.size) hB.size (fun j _ e => hfr j e))
        have hfr1 : ∀ j, Value.ownBlock (.slice sa (ds.length + 1) cap) = some j → w.heap.size ≤ j := by
          intro j hj
          have hs := hB.size
          rcases fresh1 j hj with h1 | h1
          · exact hfr j h1
          · omega
        have hrel : ∃ (k' : Nat) (a' : Option Addr) (c' : Nat), k' ≤ R.lines.length ∧ Value.int .i64 ((k : Int) + 1) = .int .i64 k' ∧ Value.slice sa (ds.length + 1) cap = .slice a' (dirtyTo R k').length c' ∧ w1.ownsRow 0 3 1 (.slice a' (dirtyTo R k').length c') (dirtyTo R k').length (nats (dirtyTo R k')) ∧ Below w.heap.size w w1 ∧ ∀ j, Value.ownBlock (.slice a' (dirtyTo R k').length c') = some j → w.heap.size ≤ j := by
          refine ⟨k + 1, sa, cap, by omega, by go_num, ?_, ?_, hB1, ?_⟩
          · rw [hsucc.out]; simp
          · rw [hsucc.out, nats_snoc]; simpa using own1
          · rw [hsucc.out]; simpa using hfr1
        replace hrel := Lib.hid hrel
        clear own1 only1 fresh1 hown hfr hfr1 hB1
        go_wp2_with fail
        go_roundw
        case rel => exact hrel.out
        case measure => simp [intOf]; omega
      · have hqI : ¬ (0 : Int) < ((R.line k).hist.length : Int) := by omega
        rw [if_neg hq] at hsucc
        replace hsucc := Lib.hid hsucc
        go_wp2_with fail
        go_roundw
        case rel => exact ⟨k + 1, a, c, by omega, by go_num, by rw [hsucc.out], by rw [hsucc.out]; exact hown, hB, by rw [hsucc.out]; exact hfr⟩
        case measure => simp [intOf]; omega
    · obtain rfl : k = R.lines.length := by omega
      have hx : post (.returned (.slice a (dirtyTo R R.lines.length).length c)) wr := by rw [← hpost.out]; exact ⟨a, c, rfl, hown, hB, hfr⟩
      replace hx := Lib.hid hx
      clear hown hfr
      go_wp2_with fail
      exact hx.out
end Go.Proofs.Ytjmdibgncaljaaa.Dev

/-! The program's device: Image. -/
namespace Go.Proofs.Ytjmdibgncaljaaa.Dev
open Go.RowKit Go.Maps
variable {w : World} {F : Own} {o T : Nat} {L : Lay} {R : Dv}

/-! ### crash images as words -/
def crashLs (R : Dv) (kf : Nat → Nat) : List Ln := (List.range R.lines.length).map fun l => ⟨wordsL (R.line l) (kf l), [], 0⟩
def crashW (R : Dv) (kf : Nat → Nat) : List Nat := (crashLs R kf).flatMap Ln.base
theorem crashLs_len (R : Dv) (kf : Nat → Nat) : (crashLs R kf).length = R.lines.length := by simp [crashLs]
theorem crashLs_get (R : Dv) (kf : Nat → Nat) (l : Nat) (h : l < R.lines.length) : (crashLs R kf)[l]? = some ⟨wordsL (R.line l) (kf l), [], 0⟩ := by
  unfold crashLs; rw [List.getElem?_map, List.getElem?_range h]; rfl
theorem crashLs_8 (h : R.Ok T) (kf : Nat → Nat) : ∀ l ∈ crashLs R kf, (Ln.base l).length = 8 := by
  intro l hl
  unfold crashLs at hl
  simp only [List.mem_map, List.mem_range] at hl
  obtain ⟨i, hi, rfl⟩ := hl
  show (wordsL _ _).length = 8
  rw [wordsL_len]; exact (h.ln i hi).b
theorem crashW_len (h : R.Ok T) (kf : Nat → Nat) : (crashW R kf).length = R.lines.length * 8 := by
  unfold crashW; rw [flat_len _ _ (crashLs_8 h kf), crashLs_len]; omega
theorem crashW_lt (h : R.Ok T) (kf : Nat → Nat) : ∀ x ∈ crashW R kf, x < 18446744073709551616 := by
  intro x hx
  unfold crashW crashLs at hx
  simp only [List.mem_flatMap, List.mem_map, List.mem_range] at hx
  obtain ⟨l, ⟨i, hi, rfl⟩, hx⟩ := hx
  exact (h.ln i hi).words _ x hx
theorem crashW_congr (R : Dv) (kf kf' : Nat → Nat) (h : ∀ l, l < R.lines.length → wordsL (R.line l) (kf l) = wordsL (R.line l) (kf' l)) : crashW R kf = crashW R kf' := by
  unfold crashW crashLs
  congr 1
  apply List.map_congr_left
  intro l hl
  rw [h l (by simpa using hl)]
theorem crashW_zero (R : Dv) : crashW R (fun _ => 0) = R.perW := by
  unfold crashW crashLs Dv.perW
  rw [List.flatMap_def, List.flatMap_def, List.map_map]
  congr 1
  apply List.ext_getElem?
  intro i
  rcases Nat.lt_or_ge i R.lines.length with h | h
  · rw [List.getElem?_map, List.getElem?_range h, List.getElem?_map, R.line_get h]; rfl
  · rw [List.getElem?_eq_none (by simpa using h), List.getElem?_eq_none (by simpa using h)]
theorem crashW_all (R : Dv) : crashW R (fun l => (R.line l).hist.length) = R.curW := by
  unfold crashW crashLs Dv.curW
  rw [List.flatMap_def, List.flatMap_def, List.map_map]
  congr 1
  apply List.ext_getElem?
  intro i
  rcases Nat.lt_or_ge i R.lines.length with h | h
  · rw [List.getElem?_map, List.getElem?_range h, List.getElem?_map, R.line_get h]; rfl
  · rw [List.getElem?_eq_none (by simpa using h), List.getElem?_eq_none (by simpa using h)]
theorem crash_set (h : R.Ok T) (kf kf' : Nat → Nat) (n : Nat) (hn : n < R.lines.length) (he : ∀ l, l < R.lines.length → l ≠ n → wordsL (R.line l) (kf' l) = wordsL (R.line l) (kf l)) (h0 : kf n = 0) :
    crashW R kf' = ((R.line n).hist.take (kf' n)).foldl setA (crashW R kf) := by
  have e : crashLs R kf' = (crashLs R kf).set n ⟨wordsL (R.line n) (kf' n), [], 0⟩ := by
    apply List.ext_getElem?
    intro l
    by_cases hl : l < R.lines.length
    · rw [crashLs_get R kf' l hl, List.getElem?_set]
      by_cases e : n = l
      · subst e; rw [if_pos rfl, if_pos (by rw [crashLs_len]; exact hl)]
      · rw [if_neg e, crashLs_get R kf l hl, he l hl (fun h => e h.symm)]
    · rw [List.getElem?_eq_none (by rw [crashLs_len]; omega), List.getElem?_eq_none (by simp [crashLs_len]; omega)]
  have hg := crashLs_get R kf n hn
  have := persist_per (crashLs R kf) (crashLs_8 h kf) n (by rw [crashLs_len]; exact hn) ((R.line n).hist.take (kf' n)) (fun p hp => ((h.ln n hn).h p (List.mem_of_mem_take hp)).1)
    ⟨wordsL (R.line n) (kf n), [], 0⟩ (by show (wordsL _ _).length = 8; rw [wordsL_len]; exact (h.ln n hn).b) ⟨wordsL (R.line n) (kf' n), [], 0⟩ (by rw [h0]; rfl)
  unfold crashW
  rw [e, this]
  congr 1
  have e2 : (crashLs R kf).set n ⟨wordsL (R.line n) (kf n), [], 0⟩ = crashLs R kf := by
    have := set_getD_self (crashLs R kf) n ln0
    rw [getD_of ln0 hg] at this
    exact this
  rw [e2]
/-- How many stores a choice takes of a line. -/
def chK (R : Dv) (ch : List Nat) (l : Nat) : Nat := if ch = [] then 0 else ch.getD ((dirtyTo R l).length % ch.length) 0 % ((R.line l).hist.length + 1)
def chJ (R : Dv) (ch : List Nat) (j l : Nat) : Nat := if (dirtyTo R l).length < j then chK R ch l else 0
def imageW (R : Dv) (ch : List Nat) : List Nat := crashW R (chK R ch)
theorem chK_le (R : Dv) (ch : List Nat) (l : Nat) : chK R ch l ≤ (R.line l).hist.length := by
  unfold chK
  split
  · omega
  · have := Nat.mod_lt (ch.getD ((dirtyTo R l).length % ch.length) 0) (show 0 < (R.line l).hist.length + 1 by omega); omega
theorem dirtyTo_mono {R : Dv} {a b : Nat} (h : a ≤ b) : ∃ t, dirtyTo R b = dirtyTo R a ++ t := by
  induction b with
  | zero => obtain rfl : a = 0 := by omega
            exact ⟨[], by simp⟩
  | succ b ih =>
    rcases Nat.lt_or_ge b a with h1 | h1
    · obtain rfl : a = b + 1 := by omega
      exact ⟨[], by simp⟩
    · obtain ⟨t, ht⟩ := ih h1
      rw [dirtyTo_succ, ht]
      split
      · exact ⟨t ++ [b], by rw [List.append_assoc]⟩
      · exact ⟨t, rfl⟩
/-- The place of a line among the dirty ones. -/
theorem dirty_at {R : Dv} {j n : Nat} (h : (dirtyL R)[j]? = some n) : (dirtyTo R n).length = j ∧ n < R.lines.length ∧ 0 < (R.line n).hist.length := by
  have hm := dirtyTo_mem (List.mem_of_getElem? h)
  obtain ⟨t, ht⟩ := dirtyTo_mono (R := R) (show n + 1 ≤ R.lines.length by omega)
  have hs := dirtyTo_succ R n
  rw [if_pos hm.2] at hs
  refine ⟨?_, hm⟩
  unfold dirtyL at h
  have hnd : (dirtyTo R R.lines.length).Nodup := List.nodup_range.sublist List.filter_sublist
  have h2 : (dirtyTo R R.lines.length)[(dirtyTo R n).length]? = some n := by
    rw [ht, hs, List.append_assoc, List.getElem?_append_right (Nat.le_refl _)]; simp
  have hj : j < (dirtyTo R R.lines.length).length := by
    rcases Nat.lt_or_ge j (dirtyTo R R.lines.length).length with h1 | h1
    · exact h1
    · rw [List.getElem?_eq_none h1] at h; cases h
  exact ((List.getElem?_inj hj hnd).1 (h.trans h2.symm)).symm
theorem dirty_lt {R : Dv} {l : Nat} (hl : l < R.lines.length) (hd : 0 < (R.line l).hist.length) : (dirtyTo R l).length < (dirtyL R).length := by
  obtain ⟨t, ht⟩ := dirtyTo_mono (R := R) (show l + 1 ≤ R.lines.length by omega)
  have hs := dirtyTo_succ R l
  rw [if_pos hd] at hs
  unfold dirtyL
  rw [ht, hs]; simp
theorem dirty_place {R : Dv} {l : Nat} (hl : l < R.lines.length) (hd : 0 < (R.line l).hist.length) : (dirtyL R)[(dirtyTo R l).length]? = some l := by
  obtain ⟨t, ht⟩ := dirtyTo_mono (R := R) (show l + 1 ≤ R.lines.length by omega)
  have hs := dirtyTo_succ R l
  rw [if_pos hd] at hs
  unfold dirtyL
  rw [ht, hs, List.append_assoc, List.getElem?_append_right (Nat.le_refl _)]; simp
theorem chJ_step (h : R.Ok T) (ch : List Nat) {j n : Nat} (hd : (dirtyL R)[j]? = some n) : crashW R (chJ R ch (j + 1)) = ((R.line n).hist.take (chK R ch n)).foldl setA (crashW R (chJ R ch j)) := by
  obtain ⟨h1, h2, h3⟩ := dirty_at hd
  have := crash_set h (chJ R ch j) (chJ R ch (j + 1)) n h2 ?_ ?_
  · have e : chJ R ch (j + 1) n = chK R ch n := by unfold chJ; rw [h1, if_pos (by omega)]
    rw [e] at this; exact this
  · intro l hl hne
    by_cases hc : 0 < (R.line l).hist.length
    · have : (dirtyTo R l).length ≠ j := by
        intro e
        have h4 := dirty_place hl hc
        rw [e, hd] at h4
        exact hne (Option.some.inj h4).symm
      unfold chJ
      by_cases hlt : (dirtyTo R l).length < j
      · rw [if_pos (by omega), if_pos hlt]
      · rw [if_neg (by omega), if_neg hlt]
    · have e0 : (R.line l).hist = [] := List.eq_nil_of_length_eq_zero (by omega)
      unfold wordsL; rw [e0]; simp
  · unfold chJ; rw [h1, if_neg (by omega)]
theorem chJ_zero (R : Dv) (ch : List Nat) : crashW R (chJ R ch 0) = R.perW := by
  rw [← crashW_zero]; exact crashW_congr _ _ _ (fun l _ => by unfold chJ; rw [if_neg (by omega)])
theorem chJ_all (R : Dv) (ch : List Nat) : crashW R (chJ R ch (dirtyL R).length) = imageW R ch := by
  refine crashW_congr _ _ _ (fun l hl => ?_)
  by_cases hc : 0 < (R.line l).hist.length
  · unfold chJ; rw [if_pos (dirty_lt hl hc)]
  · have e0 : (R.line l).hist = [] := List.eq_nil_of_length_eq_zero (by omega)
    unfold wordsL; rw [e0]; simp
theorem imageW_nil (R : Dv) : imageW R [] = R.perW := by
  rw [← crashW_zero]; exact crashW_congr _ _ _ (fun l _ => by unfold chK; rw [if_pos rfl])
theorem SubV.takeRd {w : World} {T : TypeId} {a : Option Addr} {c k : Nat} {ps : List (Nat × Nat)} (h : SubV w T 2 (.slice a ps.length c) ps.length (wcells ps)) (hk : k ≤ ps.length) : Rd w (.slice a k c) k (wcells (ps.take k)) := by
  obtain ⟨a', c', e1, h2⟩ := h.rd
  simp only [Value.slice.injEq, true_and] at e1
  obtain ⟨rfl, rfl⟩ := e1
  refine ⟨_, _, rfl, ?_⟩
  rcases h2 with ⟨h3, _⟩ | ⟨b', o', h3, h4⟩
  · exact .inl ⟨by omega, by rw [List.length_eq_zero_iff.1 (show (ps.take k).length = 0 by rw [List.length_take]; omega)]; rfl⟩
  · refine .inr ⟨b', o', h3, fun j u hj => h4 j u ?_⟩
    rw [← wcells_take, List.getElem?_take] at hj
    split at hj
    · exact hj
    · cases hj
end Go.Proofs.Ytjmdibgncaljaaa.Dev

/-! The program's device: the walk of Image. -/
namespace Go.Proofs.Ytjmdibgncaljaaa.Dev
open Go.RowKit Go.Maps
variable {w : World} {F : Own} {o T : Nat} {L : Lay} {R : Dv}

/-- The roles of blocks that are not there yet may be forgotten. -/
def Own.trim (F : Own) (w : World) : Own := fun k => if k < w.heap.size then F k else none
theorem Own.trim_ext (F : Own) (w : World) : Ext w F (F.trim w) := fun _ hk => if_pos hk
theorem Own.trim_new (F : Own) (w : World) {k : Nat} (h : w.heap.size ≤ k) : F.trim w k = none := if_neg (by omega)
theorem DevSt.trim (h : DevSt w F o L T R) : DevSt w (F.trim w) o L T R := h.kept (Only.refl (fun _ => False) _) (F.trim_ext w) (fun _ _ s => s.elim)

set_option maxHeartbeats 4000000 in
set_option maxRecDepth 100000 in
theorem image_any (h : DevSt w F o L T R) (ca : Option Addr) (cc : Nat) (ch : List Nat) (hch : Rd w (.slice ca ch.length cc) ch.length (u8s ch)) (hcl : ch.length ≤ 9223372036854775807) (hc8 : ∀ x ∈ ch, x < 256) :
    Calls Try.prog 86 #[.pointer (some ⟨L.g, 0, none⟩), .slice ca ch.length cc] w (BytesPost w (bytesL (imageW R ch))) := by
  generalize hpost : BytesPost w (bytesL (imageW R ch)) = post
  have n1 := h.ok.n1
  have n2 := h.ok.n2
  have hok := h.ok
  have ht100 := h.ok.t
  have d0 := h.dev.cell (o := 0) rfl
  have d2 := h.dev.cell (o := 2) rfl
  have hpl : R.perW.length = R.lines.length * 8 := by rw [h.ok.perLen]; omega
  have hcu := cloneU_any w L.pb 0 L.pc R.perW (by rw [hpl]; exact Rd.of_own h.per) (by rw [hpl]; omega)
  rw [hpl] at hcu
  replace hcu := Lib.hid hcu
  replace hpl := Lib.hid hpl
  have hend : ∀ (w1 : World) (b c : Nat), w1.ownsRow 0 27 1 (.slice (some ⟨b, 0, none⟩) (R.lines.length * 8) c) (R.lines.length * 8) (u64s (imageW R ch)) → Below w.heap.size w w1 →
      Calls Try.prog 105 #[.slice (some ⟨b, 0, none⟩) (R.lines.length * 8) c] w1 (fun e w' => ∃ v, e = .returned v ∧ post (.returned v) w') := by
    intro w1 b c hown hB
    refine (bytesOf_any w1 b 0 c (imageW R ch) (R.lines.length * 8) (crashW_len hok _) (Rd.of_own hown) (by omega) (by omega) (crashW_lt hok _)).mono ?_
    rintro e w' ⟨g, rfl, p1, p2, p3⟩
    refine ⟨_, rfl, ?_⟩
    rw [← hpost]
    exact ⟨g, rfl, p1, hB.trans (p2.mono hB.size), Nat.le_trans hB.size p3⟩
  replace hend := Lib.hid hend
  clear hpost
  have hFb := fun k hk => F.trim_new w (k := k) hk
  have h := h.trim
  generalize F.trim w = F1 at *
  replace h := Lib.hid h
  go_enter Try.func86, Try.ntmps86
  go_wp2_with fail
  refine hcu.out.mono ?_
  rintro e w1 ⟨a1, c1, rfl, hown1, hB1, hfr1⟩
  obtain ⟨b1, ha1⟩ : ∃ b1, a1 = some ⟨b1, 0, none⟩ := by
    rcases hown1.2 with ⟨_, h2⟩ | ⟨g, cap, cur, h2, _⟩
    · omega
    · simp only [Value.slice.injEq] at h2; exact ⟨g, h2.1⟩
  subst ha1
  have hb1 := hfr1 b1 rfl
  have hb1l := ownsRow_lt hown1 (k := b1) rfl
  have hR1 : DevSt w1 F1 o L T R := h.out.below hB1
  have hch1 := hch.kept hB1
  replace hR1 := Lib.hid hR1
  clear hcu hfr1
  by_cases h0 : ch.length = 0
  · have hi0 : imageW R ch = R.perW := by rw [List.length_eq_zero_iff.1 h0, imageW_nil]
    have hl0 : (0 : Int) < ((ch.length : Nat) : Int) → False := by omega
    have hln : ¬ (0 : Int) < ((ch.length : Nat) : Int) := by omega
    have hbo := hend.out w1 b1 c1 (by rw [hi0]; exact hown1) hB1
    replace hbo := Lib.hid hbo
    replace h0 := Lib.hid h0
    replace hi0 := Lib.hid hi0
    clear hown1 hend hl0
    go_wp2_with fail
    refine hbo.out.mono ?_
    rintro e w' ⟨v, rfl, hp⟩
    replace hp := Lib.hid hp
    go_wp2_with fail
    exact hp.out
  · have hlI : (0 : Int) < ((ch.length : Nat) : Int) := by omega
    have hlI2 : (1 : Int) ≤ ((ch.length : Nat) : Int) := by omega
    have hdy := dirty_any hR1.out
    replace hdy := Lib.hid hdy
    go_wp2_with fail
    refine hdy.out.mono ?_
    rintro e w2 ⟨da, dc, rfl, hown2, hB2, hfr2⟩
    have hB02 : Below w.heap.size w w2 := hB1.trans (hB2.mono hB1.size)
    have how0 : w2.ownsRow 0 27 1 (.slice (some ⟨b1, 0, none⟩) (R.lines.length * 8) c1) (R.lines.length * 8) (u64s (crashW R (chJ R ch 0))) := by
      rw [chJ_zero]; exact ownsRow_only hown1 (Only.of_below hB2) (by intro k hk; cases hk; exact Nat.not_le.2 hb1l)
    have hrd2 := Rd.of_own hown2
    have hdl : (dirtyL R).length ≤ R.lines.length := dirtyTo_len R R.lines.length
    have hdne : ∀ k, Value.ownBlock (.slice da (dirtyL R).length dc) = some k → ¬ k = b1 := by intro k hk e; have := hfr2 k hk; omega
    have hs2 := hB2.size
    clear hown1 hdy hown2 hfr2
    go_wp2_with fail
    go_loopw [23] (fun i wr => ∃ j : Nat, j ≤ (dirtyL R).length ∧ i = .int .i64 j ∧ wr.ownsRow 0 27 1 (.slice (some ⟨b1, 0, none⟩) (R.lines.length * 8) c1) (R.lines.length * 8) (u64s (crashW R (chJ R ch j))) ∧ Only (fun k => k = b1) w2 wr) (fun i _ => (dirtyL R).length - (intOf i).toNat)
    case atStart => exact ⟨0, Nat.zero_le _, rfl, how0, Only.refl _ _⟩
    case round =>
      clear how0
      obtain ⟨j, hj, rfl, hown, hO⟩ := hrel
      have hBr : Below w.heap.size w wr := hB02.trans (hO.below (B := w.heap.size) hB02.size (by rintro k _ rfl; exact hb1))
      by_cases hlt : j < (dirtyL R).length
      · have hat := get_of_lt 0 hlt
        have hstep := chJ_step hok ch hat
        obtain ⟨hp1, hp2, hp3⟩ := dirty_at hat
        have hrd := hrd2.only hO hdne
        obtain ⟨bl, ol, cl, ea, fa⟩ := hrd.cells (by omega)
        simp only [Value.slice.injEq, true_and] at ea
        obtain ⟨rfl, hcap⟩ := ea
        replace hcap := Lib.hid hcap
        have cd : wr.cell? ⟨bl, ol + j, none⟩ = _ := fa _ _ (nats_get _ _ _ hat)
        generalize (dirtyL R).getD j 0 = n at *
        have hR : DevSt wr F1 o L T R := (hR1.out.below hB2).kept hO (Ext.refl _ _) (fun k r e e2 => by
          rw [e, hFb b1 hb1] at e2; cases e2)
        have d2r := hR.dev.cell (o := 2) rfl
        obtain ⟨cs, hv', hL, hcl2, hlin⟩ := hR.lin
        obtain ⟨x0, x1, hsub, hrole⟩ := hlin n hp2
        obtain ⟨va, vc, hva⟩ := hsub.slice
        have l1 := hL.cell x1
        rw [hva] at l1 hsub
        have hvb : ∀ k, Value.ownBlock (.slice va (R.line n).hist.length vc) = some k → ¬ k = b1 := by
          intro k hk e
          have := hrole k (by rw [hva]; exact hk)
          rw [e, hFb b1 hb1] at this; cases this
        have hchr := (hch.kept hBr)
        obtain ⟨bc, oc, cx, ec, fc⟩ := hchr.cells (by omega)
        simp only [Value.slice.injEq, true_and] at ec
        obtain ⟨rfl, hcap2⟩ := ec
        replace hcap2 := Lib.hid hcap2
        have hjm : j % ch.length < ch.length := Nat.mod_lt _ (by omega)
        have hatc := get_of_lt 0 hjm
        have cch : wr.cell? ⟨bc, oc + j % ch.length, none⟩ = _ := fc _ _ (u8s_get _ _ _ hatc)
        have hc256 := hc8 _ (List.mem_of_getElem? hatc)
        have hk : chK R ch n = ch.getD (j % ch.length) 0 % ((R.line n).hist.length + 1) := by
          unfold chK; rw [if_neg (fun e => h0 (by rw [e]; rfl)), hp1]
        have hhl := (hok.ln n hp2).hl
        have hkle := chK_le R ch n
        rw [hk] at hkle hstep
        have hkm : ch.getD (j % ch.length) 0 % ((R.line n).hist.length + 1) < (R.line n).hist.length + 1 := Nat.mod_lt _ (by omega)
        have hps : ∀ p ∈ (R.line n).hist.take (ch.getD (j % ch.length) 0 % ((R.line n).hist.length + 1)), p.1 / 8 < R.lines.length * 8 ∧ p.1 < 18446744073709551616 ∧ p.2 < 18446744073709551616 := fun p hp => by
          obtain ⟨q1, q2, q3⟩ := (hok.ln n hp2).h p (List.mem_of_mem_take hp); omega
        have hpl2 : ((R.line n).hist.take (ch.getD (j % ch.length) 0 % ((R.line n).hist.length + 1))).length = ch.getD (j % ch.length) 0 % ((R.line n).hist.length + 1) := by rw [List.length_take]; omega
        have hap := apply_any wr b1 c1 (R.lines.length * 8) _ hown va vc ((R.line n).hist.take (ch.getD (j % ch.length) 0 % ((R.line n).hist.length + 1))) (by rw [hpl2]; exact hsub.takeRd hkle) (by
          intro k hk'; exact hvb k (by cases va <;> simp [Value.ownBlock] at hk' ⊢; exact hk')) (by omega) (by omega) hps
        rw [hpl2, ← hstep] at hap
        have hjI : (j : Int) < ((dirtyL R).length : Int) := by omega
        have hnI : (n : Int) < (R.lines.length : Int) := by omega
        have hn0 : (0 : Int) ≤ (n : Int) := by omega
        have hvcI : (R.line n).hist.length ≤ vc := by
          rcases hsub.shape with ⟨h1, h2⟩ | ⟨_, _, _, h1, h2, _⟩
          · simp only [Value.slice.injEq] at h1; omega
          · simp only [Value.slice.injEq] at h1; omega
        have hmc : ((j % ch.length : Nat) : Int) < ((ch.length : Nat) : Int) := by omega
        replace hap := Lib.hid hap
        replace hk := Lib.hid hk
        replace hva := Lib.hid hva
        replace hat := Lib.hid hat
        replace hatc := Lib.hid hatc
        replace hpl2 := Lib.hid hpl2
        replace hp1 := Lib.hid hp1
        replace hstep := Lib.hid hstep
        clear hR hlin hsub hrole hL x0 x1 hown fa fc hps hchr hrd hcl2 hvb
        generalize ch.getD (j % ch.length) 0 = cv at *
        have hcvI : (cv : Int) < 256 := by omega
        have hkmI : (cv : Int) % (((R.line n).hist.length : Int) + 1) ≤ (vc : Int) := by have := Int.emod_lt_of_pos (cv : Int) (show (0 : Int) < ((R.line n).hist.length : Int) + 1 by omega); omega
        have hkm0 : 0 ≤ (cv : Int) % (((R.line n).hist.length : Int) + 1) := Int.emod_nonneg _ (by omega)
        go_wp2_with fail
        refine hap.out.mono ?_
        rintro e w3 ⟨rfl, hown3, hO3⟩
        have hO4 := hO.trans hO3
        replace hown3 := Lib.hid hown3
        go_wp2_with fail
        go_roundw
        case rel => exact ⟨j + 1, by omega, by go_num, hown3.out, hO4⟩
        case measure => simp [intOf]; omega
      · obtain rfl : j = (dirtyL R).length := by omega
        rw [chJ_all] at hown
        have hbo := hend.out wr b1 c1 hown hBr
        replace hbo := Lib.hid hbo
        clear hown hend
        go_wp2_with fail
        refine hbo.out.mono ?_
        rintro e w' ⟨v, rfl, hp⟩
        replace hp := Lib.hid hp
        go_wp2_with fail
        exact hp.out
end Go.Proofs.Ytjmdibgncaljaaa.Dev

namespace Go.Proofs.Ytjmdibgncaljaaa.Dev
open Go.RowKit Go.Maps
variable {w : World} {F : Own} {o T : Nat} {L : Lay} {R : Dv}

theorem infoLin : (Try.prog.info? 176).map (fun i => (i.zero, i.size, i.bytes)) = some (some (.agg #[.int .u64 0, .slice none 0 0]), 2, 32) := by kernel_rfl
/-- make([]T, n) of elements of several cells: the exact world. -/
theorem makeN {P : Program} (t e : TypeId) (z : Value) (zs : Array Value) (size bytes : Nat) (ht : P.underlying t = some (.slice e)) (hi : (P.info? e).map (fun i => (i.zero, i.size, i.bytes)) = some (some z, size, bytes)) (hz : z.cells = zs)
    (n : Nat) (hb : n * bytes ≤ 281474976710656) (hn : n ≤ 9223372036854775807) (w : World) :
    (Instr.makeSlice t (.int .i64 n) (.int .i64 n)).run P w = .ok (.slice (some ⟨w.heap.size, 0, none⟩) n n) (w.alloc (.cells (madeCells zs (n * size)) e)) := by
  obtain ⟨i, h1, h2, h3, h4⟩ := info_parts hi
  have hb' : (i.bytes : Int) * (n : Int) ≤ 281474976710656 := by
    have h : ((i.bytes * n : Nat) : Int) ≤ 281474976710656 := by rw [h4, Nat.mul_comm]; omega
    rwa [Int.natCast_mul] at h
  have := run_make (P := P) w t e i z ht h1 h2 .i64 .i64 n n (by omega) (Int.le_refl _) hb' (by omega)
  simp only [Int.toNat_natCast, h3, hz] at this
  exact this
theorem _root_.Go.Proofs.Ytjmdibgncaljaaa.Has.newA (w : World) (cs : Array Value) (T : TypeId) : Has (w.alloc (.cells cs T)) w.heap.size cs.toList T := by
  unfold Has; rw [heap_alloc_new]
theorem madeCells_get (zs : Array Value) (n k : Nat) (h : k < n) : (madeCells zs n).toList[k]? = some (zs[k % zs.size]!) := by
  unfold madeCells
  simp [h]
theorem madeCells_len (zs : Array Value) (n : Nat) : (madeCells zs n).toList.length = n := by simp [size_madeCells]

/-- A device of these words. -/
def lnOf (ws : List Nat) (l : Nat) : Ln := ⟨(ws.drop (l * 8)).take 8, [], 0⟩
def fromP (n : Nat) (ws : List Nat) : Dv := ⟨(List.range n).map (lnOf ws), List.replicate 8 [], List.replicate 8 0, -1, false, 0⟩
theorem fromP_line (n : Nat) (ws : List Nat) (i : Nat) (h : i < n) : (fromP n ws).line i = lnOf ws i := by
  unfold Dv.line fromP; exact getD_of _ (by rw [List.getElem?_map, List.getElem?_range h]; rfl)
theorem fromP_len (n : Nat) (ws : List Nat) : (fromP n ws).lines.length = n := by simp [fromP]
theorem chunks (n : Nat) : ∀ (ws : List Nat), ws.length = n * 8 → (List.range n).flatMap (fun l => (ws.drop (l * 8)).take 8) = ws := by
  induction n with
  | zero => intro ws h; simp at h; subst h; rfl
  | succ n ih =>
    intro ws h
    rw [List.range_succ, List.flatMap_append]
    have h1 := ih (ws.take (n * 8)) (by rw [List.length_take]; omega)
    have h2 : (List.range n).flatMap (fun l => (ws.drop (l * 8)).take 8) = (List.range n).flatMap (fun l => ((ws.take (n * 8)).drop (l * 8)).take 8) := by
      rw [List.flatMap_def, List.flatMap_def]
      congr 1
      apply List.map_congr_left
      intro l hl
      have hl' : l < n := by simpa using hl
      rw [List.drop_take, List.take_take]
      congr 1; omega
    rw [h2, h1]
    simp only [List.flatMap_cons, List.flatMap_nil, List.append_nil]
    rw [List.take_of_length_le (show (ws.drop (n * 8)).length ≤ 8 by rw [List.length_drop]; omega), List.take_append_drop]
theorem fromP_per (n : Nat) (ws : List Nat) (h : ws.length = n * 8) : (fromP n ws).perW = ws := by
  have := chunks n ws h
  unfold Dv.perW fromP
  rw [List.flatMap_def, List.map_map]
  rw [List.flatMap_def] at this
  exact this
theorem fromP_cur (n : Nat) (ws : List Nat) (h : ws.length = n * 8) : (fromP n ws).curW = ws := by
  have := chunks n ws h
  unfold Dv.curW fromP
  rw [List.flatMap_def, List.map_map]
  rw [List.flatMap_def] at this
  exact this
theorem fromP_ok (n : Nat) (ws : List Nat) (h1 : 1 ≤ n) (h2 : n ≤ 4096) (h : ws.length = n * 8) (hw : ∀ x ∈ ws, x < 18446744073709551616) : (fromP n ws).Ok 0 := by
  refine ⟨by omega, by rw [fromP_len]; exact h1, by rw [fromP_len]; exact h2, ?_, by simp [fromP], ?_, ?_, by simp [fromP], ?_, by simp [fromP], by simp [fromP], by simp [fromP]⟩
  · intro i hi
    rw [fromP_len] at hi
    rw [fromP_line n ws i hi]
    refine ⟨?_, fun x hx => hw x (List.mem_of_mem_drop (List.mem_of_mem_take hx)), by simp [lnOf], by simp [lnOf]⟩
    show ((ws.drop (i * 8)).take 8).length = 8
    rw [List.length_take, List.length_drop]; omega
  · intro t ht; rw [show (fromP n ws).notes.getD t [] = [] from rep_getD 8 t [] [] ht]; exact List.nodup_nil
  · intro t ht x hx; rw [show (fromP n ws).notes.getD t [] = [] from rep_getD 8 t [] [] ht] at hx; cases hx
  · intro e he; exact .inl (List.eq_of_mem_replicate he)

/-- The device's cells while the first t threads are made. -/
def devC0 (pb pc cb cc lb n B t : Nat) : List Value :=
  [.slice (some ⟨pb, 0, none⟩) (n * 8) pc, .slice (some ⟨cb, 0, none⟩) (n * 8) cc, .slice (some ⟨lb, 0, none⟩) n n] ++ ((List.range 8).map fun j => if j < t then Value.pointer (some ⟨B + j * 2 + 1, 0, none⟩) else .pointer none) ++ [.bool false, .bool false, .int .i64 0, .int .u64 0]
theorem devC0_at (pb pc cb cc lb n B t : Nat) (ht : t < 8) : (devC0 pb pc cb cc lb n B t)[3 + t]? = some (.pointer none) := by
  match t, ht with
  | 0, _ | 1, _ | 2, _ | 3, _ | 4, _ | 5, _ | 6, _ | 7, _ => rfl
theorem devC0_set (pb pc cb cc lb n B t : Nat) (ht : t < 8) : (devC0 pb pc cb cc lb n B t).set (3 + t) (.pointer (some ⟨B + t * 2 + 1, 0, none⟩)) = devC0 pb pc cb cc lb n B (t + 1) := by
  match t, ht with
  | 0, _ | 1, _ | 2, _ | 3, _ | 4, _ | 5, _ | 6, _ | 7, _ => rfl
/-- What region 1 of 'of' leaves. -/
def OfMid (w : World) (pb pc n : Nat) (ws : List Nat) (d : Value) (wx : World) : Prop :=
  ∃ g cb cc lb, d = .pointer (some ⟨g, 0, none⟩) ∧ Has wx g (devC0 pb pc cb cc lb n 0 0) 147 ∧ wx.ownsRow 0 27 1 (.slice (some ⟨cb, 0, none⟩) (n * 8) cc) (n * 8) (u64s ws) ∧
    Has wx lb (madeCells #[.int .u64 0, .slice none 0 0] (n * 2)).toList 176 ∧ Below w.heap.size w wx ∧ w.heap.size ≤ g ∧ w.heap.size ≤ cb ∧ w.heap.size ≤ lb ∧ g ≠ cb ∧ g ≠ lb ∧ cb ≠ lb
theorem own_some {w : World} {T : TypeId} {a : Option Addr} {m c : Nat} {xs : List Value} (h : w.ownsRow 0 T 1 (.slice a m c) m xs) (hm : 0 < m) : ∃ b, a = some ⟨b, 0, none⟩ := by
  rcases h.2 with ⟨_, h2⟩ | ⟨g, cap, cur, h2, _⟩
  · omega
  · simp only [Value.slice.injEq] at h2; exact ⟨g, h2.1⟩
theorem OfMid_A {w wc : World} {pb pc n c : Nat} {ws : List Nat} {ca : Option Addr} (hn : 1 ≤ n) (own : wc.ownsRow 0 27 1 (.slice ca (n * 8) c) (n * 8) (u64s ws)) (B : Below w.heap.size w wc) (fr : ∀ k, Value.ownBlock (.slice ca (n * 8) c) = some k → w.heap.size ≤ k) {wx : World}
    (hx : wx = ((wc.alloc (.cells (madeCells #[.int .u64 0, .slice none 0 0] (n * 2)) 176)).alloc (.cells #[.slice (some ⟨pb, 0, none⟩) (n * 8) pc, .slice ca (n * 8) c, .slice (some ⟨wc.heap.size, 0, none⟩) n n, .pointer none, .pointer none, .pointer none, .pointer none, .pointer none, .pointer none, .pointer none, .pointer none, .bool false, .bool false, .int .i64 0, .int .u64 0] 147))) :
    OfMid w pb pc n ws (.pointer (some ⟨wc.heap.size + 1, 0, none⟩)) wx := by
  subst hx
  obtain ⟨cb, rfl⟩ := own_some own (by omega)
  have hcb := fr cb rfl
  have hcl := ownsRow_lt own (k := cb) rfl
  have hs := B.size
  have l1 := (Has.newA wc (madeCells #[.int .u64 0, .slice none 0 0] (n * 2)) 176).alloc (.cells #[.slice (some ⟨pb, 0, none⟩) (n * 8) pc, .slice (some ⟨cb, 0, none⟩) (n * 8) c, .slice (some ⟨wc.heap.size, 0, none⟩) n n, .pointer none, .pointer none, .pointer none, .pointer none, .pointer none, .pointer none, .pointer none, .pointer none, .bool false, .bool false, .int .i64 0, .int .u64 0] 147)
  have l2 := Has.new (wc.alloc (.cells (madeCells #[.int .u64 0, .slice none 0 0] (n * 2)) 176)) (devC0 pb pc cb c wc.heap.size n 0 0) 147
  simp only [World.size_alloc] at l2
  refine ⟨_, cb, c, wc.heap.size, rfl, l2, ((own.alloc _).alloc _), l1, ((B.alloc hs _).alloc (by simp; omega) _), by omega, hcb, hs, by omega, by omega, by omega⟩
theorem OfMid_B {w wc : World} {pb pc n c : Nat} {ws : List Nat} {ca : Option Addr} (hn : 1 ≤ n) (own : wc.ownsRow 0 27 1 (.slice ca (n * 8) c) (n * 8) (u64s ws))
    (B : Below (w.heap.size + 1) (w.alloc (.cells (madeCells #[.int .u64 0, .slice none 0 0] (n * 2)) 176)) wc) (fr : ∀ k, Value.ownBlock (.slice ca (n * 8) c) = some k → w.heap.size + 1 ≤ k) {wx : World}
    (hx : wx = (wc.alloc (.cells #[.slice (some ⟨pb, 0, none⟩) (n * 8) pc, .slice ca (n * 8) c, .slice (some ⟨w.heap.size, 0, none⟩) n n, .pointer none, .pointer none, .pointer none, .pointer none, .pointer none, .pointer none, .pointer none, .pointer none, .bool false, .bool false, .int .i64 0, .int .u64 0] 147))) :
    OfMid w pb pc n ws (.pointer (some ⟨wc.heap.size, 0, none⟩)) wx := by
  subst hx
  obtain ⟨cb, rfl⟩ := own_some own (by omega)
  have hcb := fr cb rfl
  have hcl := ownsRow_lt own (k := cb) rfl
  have hs := B.size
  simp only [World.size_alloc] at hs
  have hB0 : Below w.heap.size w wc := ((Below.refl w.heap.size w).alloc (Nat.le_refl _) _).trans (B.mono (by omega))
  have l1 := ((Has.newA w (madeCells #[.int .u64 0, .slice none 0 0] (n * 2)) 176).only (Only.of_below B) (by omega)).alloc (.cells #[.slice (some ⟨pb, 0, none⟩) (n * 8) pc, .slice (some ⟨cb, 0, none⟩) (n * 8) c, .slice (some ⟨w.heap.size, 0, none⟩) n n, .pointer none, .pointer none, .pointer none, .pointer none, .pointer none, .pointer none, .pointer none, .pointer none, .bool false, .bool false, .int .i64 0, .int .u64 0] 147)
  have l2 := Has.new wc (devC0 pb pc cb c w.heap.size n 0 0) 147
  refine ⟨_, cb, c, w.heap.size, rfl, l2, own.alloc _, l1, hB0.alloc (by omega) _, by omega, by omega, by omega, by omega, by omega, by omega⟩
theorem devC0_zero (pb pc cb cc lb n B : Nat) : devC0 pb pc cb cc lb n 0 0 = devC0 pb pc cb cc lb n B 0 := rfl
def thrC0 (g B j : Nat) : List Value := [.pointer (some ⟨g, 0, none⟩), .int .i64 (j : Int), .int .i64 0, .map (some (B + j * 2))]
/-- The loop of 'of': the first t threads are made. -/
structure OfSt (wx : World) (pb pc cb cc lb n g t : Nat) (wr : World) : Prop where
  sz : wr.heap.size = wx.heap.size + t * 2
  dev : Has wr g (devC0 pb pc cb cc lb n wx.heap.size t) 147
  mp : ∀ j, j < t → wr.heap[wx.heap.size + j * 2]? = some (.map #[] 0)
  th : ∀ j, j < t → Has wr (wx.heap.size + j * 2 + 1) (thrC0 g wx.heap.size j) 174
  only : Only (fun k => k = g) wx wr
theorem OfSt.step {wx wr w' : World} {pb pc cb cc lb n g t : Nat} (h : OfSt wx pb pc cb cc lb n g t wr) (ht : t < 8) (hg : g < wx.heap.size)
    (ho : w' = ((wr.alloc (.map #[] 0)).alloc (.cells #[.pointer (some ⟨g, 0, none⟩), .int .i64 (t : Int), .int .i64 0, .map (some wr.heap.size)] 174)).setCell ⟨g, 3 + t, none⟩ (.pointer (some ⟨wr.heap.size + 1, 0, none⟩))) : OfSt wx pb pc cb cc lb n g (t + 1) w' := by
  subst ho
  have hz := h.sz
  have O : Only (fun k => k = g) wr (((wr.alloc (.map #[] 0)).alloc (.cells #[.pointer (some ⟨g, 0, none⟩), .int .i64 (t : Int), .int .i64 0, .map (some wr.heap.size)] 174)).setCell ⟨g, 3 + t, none⟩ (.pointer (some ⟨wr.heap.size + 1, 0, none⟩))) :=
    Only.setCell (S := fun k => k = g) (((Only.refl (fun k => k = g) wr).alloc _).alloc _) (a := ⟨g, 3 + t, none⟩) (fun _ => rfl) _
  refine ⟨by simp; omega, ?_, ?_, ?_, h.only.trans O⟩
  · have := ((h.dev.alloc (.map #[] 0)).alloc (.cells #[.pointer (some ⟨g, 0, none⟩), .int .i64 (t : Int), .int .i64 0, .map (some wr.heap.size)] 174)).set (3 + t) (.pointer (some ⟨wr.heap.size + 1, 0, none⟩))
    rw [hz] at this ⊢
    rw [devC0_set _ _ _ _ _ _ _ _ ht] at this
    exact this
  · intro j hj
    rcases Nat.lt_or_ge j t with h1 | h1
    · rw [O.block _ (by omega) (by omega)]; exact h.mp j h1
    · obtain rfl : j = t := by omega
      rw [heap_setCell_ne (by show wx.heap.size + j * 2 ≠ g; omega), heap_alloc_lt (by simp; omega), ← hz]
      exact heap_alloc_new
  · intro j hj
    rcases Nat.lt_or_ge j t with h1 | h1
    · exact (h.th j h1).only O (by omega)
    · obtain rfl : j = t := by omega
      have := Has.new (wr.alloc (.map #[] 0)) (thrC0 g wx.heap.size j) 174
      simp only [World.size_alloc, hz] at this
      have e : (Obj.cells (thrC0 g wx.heap.size j).toArray 174) = .cells #[.pointer (some ⟨g, 0, none⟩), .int .i64 (j : Int), .int .i64 0, .map (some wr.heap.size)] 174 := by rw [hz]; rfl
      rw [e] at this
      exact this.set_ne (by show wx.heap.size + j * 2 + 1 ≠ g; omega) _
theorem own_mapE {w : World} {P : Program} {k : TypeId} {R : Value → Option (DataW Unit × List MemPlace)} {b : Nat} (h : w.heap[b]? = some (.map #[] 0)) : w.ownsMap P k R b 0 (.map []) := by
  have h0 := World.ownsMap_made (H := Unit) w P k R
  obtain ⟨es, cl, hb, r⟩ := h0
  rw [heap_alloc_new] at hb
  cases hb
  exact ⟨#[], 0, h, r⟩
def OfPost (w : World) (F : Own) (o pb n : Nat) (ws : List Nat) (e : Ending) (w' : World) : Prop :=
  ∃ L F', e = .returned (.pointer (some ⟨L.g, 0, none⟩)) ∧ DevSt w' F' o L 0 (fromP n ws) ∧ L.pb = pb ∧ Ext w F F' ∧ Below w.heap.size w w'
theorem OfSt.done {w wx wr : World} {F : Own} {o pb pc cb cc lb n g : Nat} {ws : List Nat} (h : OfSt wx pb pc cb cc lb n g 8 wr) (hl : ws.length = n * 8) (h1 : 1 ≤ n) (h2 : n ≤ 4096) (hw : ∀ x ∈ ws, x < 18446744073709551616)
    (hown : w.ownsRow 0 27 1 (.slice (some ⟨pb, 0, none⟩) (n * 8) pc) (n * 8) (u64s ws)) (hF : F pb = some (o, 1, 0))
    (hc : wx.ownsRow 0 27 1 (.slice (some ⟨cb, 0, none⟩) (n * 8) cc) (n * 8) (u64s ws)) (hlb : Has wx lb (madeCells #[.int .u64 0, .slice none 0 0] (n * 2)).toList 176) (hB : Below w.heap.size w wx)
    (g1 : w.heap.size ≤ g) (g2 : w.heap.size ≤ cb) (g3 : w.heap.size ≤ lb) (n1 : g ≠ cb) (n2 : g ≠ lb) (n3 : cb ≠ lb) (hg : g < wx.heap.size) : OfPost w F o pb n ws (.returned (.pointer (some ⟨g, 0, none⟩))) wr := by
  have hpbl := ownsRow_lt hown (k := pb) rfl
  have hcbl := ownsRow_lt hc (k := cb) rfl
  have hlbl := hlb.lt
  have hbs := hB.size
  let F' : Own := fun k => if k < w.heap.size then F k else if k = g then some (o, 0, 0) else if k = cb then some (o, 2, 0) else if k = lb then some (o, 3, 0) else if k < wx.heap.size then none else if (k - wx.heap.size) % 2 = 0 then some (o, 6, (k - wx.heap.size) / 2) else some (o, 5, (k - wx.heap.size) / 2)
  have hperl := fromP_per n ws hl
  have hcurl := fromP_cur n ws hl
  have hlen := fromP_len n ws
  refine ⟨⟨g, pb, pc, cb, cc, lb, fun t => wx.heap.size + t * 2 + 1, fun t => wx.heap.size + t * 2⟩, F', rfl, ⟨fromP_ok n ws h1 h2 hl hw, ?_, ?_, ?_, ?_, ?_, ?_, ?_, ?_, fun t ht => ?_, fun t ht => ?_⟩, rfl, fun k hk => if_pos hk, ?_⟩
  · have e : devCells ⟨g, pb, pc, cb, cc, lb, fun t => wx.heap.size + t * 2 + 1, fun t => wx.heap.size + t * 2⟩ (fromP n ws) = devC0 pb pc cb cc lb n wx.heap.size 8 := by
      unfold devCells; rw [hlen]; rfl
    rw [e]; exact h.dev
  · show F' g = _; simp only [F', if_neg (show ¬ g < w.heap.size by omega), if_true]
  · rw [hlen, hperl]; exact ownsRow_only (ownsRow_only hown (Only.of_below hB) (by intro k hk; cases hk; exact Nat.not_le.2 hpbl)) h.only (by intro k hk; cases hk; show ¬ pb = g; omega)
  · show F' pb = _; simp only [F', if_pos hpbl]; exact hF
  · rw [hlen, hcurl]; exact ownsRow_only hc h.only (by intro k hk; cases hk; exact fun e => n1 e.symm)
  · show F' cb = _; simp only [F', if_neg (show ¬ cb < w.heap.size by omega), if_neg (fun e => n1 e.symm : ¬ cb = g), if_true]
  · refine ⟨_, fun _ => .slice none 0 0, hlb.only h.only (fun e => n2 e.symm), by rw [madeCells_len, hlen], fun i hi => ?_⟩
    rw [hlen] at hi
    rw [fromP_line n ws i hi]
    refine ⟨?_, ?_, SubV.nil _ _ _, fun k hk => by cases hk⟩
    · rw [madeCells_get _ _ _ (by omega)]
      have : i * 2 % 2 = 0 := by omega
      simp [this, lnOf]
    · rw [madeCells_get _ _ _ (by omega)]
      have : (i * 2 + 1) % 2 = 1 := by omega
      simp [this]
  · show F' lb = _; simp only [F', if_neg (show ¬ lb < w.heap.size by omega), if_neg (fun e => n2 e.symm : ¬ lb = g), if_neg (fun e => n3 e.symm : ¬ lb = cb), if_true]
  · refine ⟨?_, ?_⟩
    · have e : thrCells ⟨g, pb, pc, cb, cc, lb, fun t => wx.heap.size + t * 2 + 1, fun t => wx.heap.size + t * 2⟩ (fromP n ws) t = thrC0 g wx.heap.size t := by
        unfold thrCells thrC0
        rw [show (fromP n ws).errs.getD t 0 = 0 from rep_getD 8 t 0 0 ht]; rfl
      rw [e]; exact h.th t ht
    · show F' (wx.heap.size + t * 2 + 1) = _
      simp only [F', if_neg (show ¬ wx.heap.size + t * 2 + 1 < w.heap.size by omega), if_neg (show ¬ wx.heap.size + t * 2 + 1 = g by omega), if_neg (show ¬ wx.heap.size + t * 2 + 1 = cb by omega), if_neg (show ¬ wx.heap.size + t * 2 + 1 = lb by omega), if_neg (show ¬ wx.heap.size + t * 2 + 1 < wx.heap.size by omega)]
      rw [if_neg (by omega), show (wx.heap.size + t * 2 + 1 - wx.heap.size) / 2 = t from by omega]
  · refine ⟨?_, ?_⟩
    · rw [show (fromP n ws).notes.getD t [] = [] from rep_getD 8 t [] [] ht]
      exact NoteV.none (own_mapE (h.mp t ht))
    · show F' (wx.heap.size + t * 2) = _
      simp only [F', if_neg (show ¬ wx.heap.size + t * 2 < w.heap.size by omega), if_neg (show ¬ wx.heap.size + t * 2 = g by omega), if_neg (show ¬ wx.heap.size + t * 2 = cb by omega), if_neg (show ¬ wx.heap.size + t * 2 = lb by omega), if_neg (show ¬ wx.heap.size + t * 2 < wx.heap.size by omega)]
      rw [if_pos (by omega), show (wx.heap.size + t * 2 - wx.heap.size) / 2 = t from by omega]
  · exact hB.trans (h.only.below hbs (by rintro k _ rfl; exact g1))

set_option maxHeartbeats 4000000 in
set_option maxRecDepth 100000 in
theorem of_any (n : Nat) (pb pc : Nat) (ws : List Nat) (hl : ws.length = n * 8) (h1 : 1 ≤ n) (h2 : n ≤ 4096) (hw : ∀ x ∈ ws, x < 18446744073709551616)
    (hown : w.ownsRow 0 27 1 (.slice (some ⟨pb, 0, none⟩) (n * 8) pc) (n * 8) (u64s ws)) (hF : F pb = some (o, 1, 0)) :
    Calls Try.prog 39 #[.slice (some ⟨pb, 0, none⟩) (n * 8) pc] w (OfPost w F o pb n ws) := by
  generalize hpost : OfPost w F o pb n ws = post
  replace hpost := Lib.hid hpost
  have hcl : ∀ w' : World, Below w.heap.size w w' → Calls Try.prog 24 #[.slice (some ⟨pb, 0, none⟩) (n * 8) pc] w' (ClonePost w' 27 1 (n * 8) (u64s ws)) := by
    intro w' hB
    have := cloneU_any w' pb 0 pc ws (by rw [hl]; exact (Rd.of_own hown).kept hB) (by omega)
    rw [hl] at this; exact this
  replace hcl := Lib.hid hcl
  have hmk := fun w => makeN (P := Try.prog) 144 176 (.agg #[.int .u64 0, .slice none 0 0]) #[.int .u64 0, .slice none 0 0] 2 32 Try.underlying144 infoLin rfl n (by omega) (by omega) w
  replace hl := Lib.hid hl
  have hwr : IntKind.i64.wrap (n : Int) = (n : Int) := IntWalk.i64_in _ (by omega)
  replace hF := Lib.hid hF
  go_enter Try.func39, Try.ntmps39
  go_wp2_with fail
  go_cut [3] (fun d wx => OfMid w pb pc n ws d wx)
  case first =>
    go_region_with ((go_at_call 24; refine (hcl.out _ (by first | exact Below.refl _ _ | exact (Below.refl _ _).alloc (Nat.le_refl _) _ | exact below_drewN (Below.refl _ _) 1 | exact below_drewN ((Below.refl _ _).alloc (Nat.le_refl _) _) 1)).mono ?_; rintro e wc ⟨ca, cc, rfl, ownc, Bc, frc⟩))
    · have Bc0 : Below w.heap.size w wc := (below_drewN (Below.refl w.heap.size w) 1).trans Bc
      have hfin := OfMid_A (pb := pb) (pc := pc) h1 ownc Bc0 frc rfl
      replace hfin := Lib.hid hfin
      clear ownc Bc frc
      go_wp2_with fail
      go_meet
      exact hfin.out
    · have Bc0 : Below (w.heap.size + 1) (w.alloc (.cells (madeCells #[.int .u64 0, .slice none 0 0] (n * 2)) 176)) wc := ((Below.refl (w.heap.size + 1) (w.alloc (.cells (madeCells #[.int .u64 0, .slice none 0 0] (n * 2)) 176))).drew).trans (by simpa using Bc)
      have hfin := OfMid_B (pb := pb) (pc := pc) h1 ownc Bc0 (fun k hk => by have := frc k hk; simpa using this) rfl
      replace hfin := Lib.hid hfin
      clear ownc Bc frc
      go_wp2_with fail
      go_meet
      exact hfin.out
  case rest =>
    obtain ⟨g, cb, cc, lb, rfl, m1, m2, m3, m4, m5, m6, m7, m8, m9, m10⟩ := hcut
    have hfin : ∀ wr, OfSt wc pb pc cb cc lb n g 8 wr → post (.returned (.pointer (some ⟨g, 0, none⟩))) wr := by
      intro wr h
      rw [← hpost.out]
      exact h.done hl.out h1 h2 hw hown hF.out m2 m3 m4 m5 m6 m7 m8 m9 m10 m1.lt
    have hgl := m1.lt
    have hi : OfSt wc pb pc cb cc lb n g 0 wc := ⟨by omega, by rw [← devC0_zero]; exact m1, fun j hj => by omega, fun j hj => by omega, Only.refl _ _⟩
    have hmm := @run_makeMap Try.prog
    replace hfin := Lib.hid hfin
    clear m1 m2 m3 m4 m5 m6 m7 m8 m9 m10 hmk hcl hown
    go_wp2_with fail
    go_loopw [14] (fun i wr => ∃ t : Nat, t ≤ 8 ∧ i = .int .i64 t ∧ OfSt wc pb pc cb cc lb n g t wr) (fun i _ => 8 - (intOf i).toNat)
    case atStart => exact ⟨0, by omega, rfl, hi⟩
    case round =>
      clear hi
      obtain ⟨t, ht, rfl, hI⟩ := hrel
      by_cases ht8 : t < 8
      · have ht8I : (t : Int) < 8 := by omega
        have hat := (hI.dev.alloc (.map #[] 0)).cell (devC0_at pb pc cb cc lb n wc.heap.size t ht8)
        have hat2 := ((hI.dev.alloc (.map #[] 0)).alloc (.cells #[.pointer (some ⟨g, 0, none⟩), .int .i64 (t : Int), .int .i64 0, .map (some wr.heap.size)] 174)).cell (devC0_at pb pc cb cc lb n wc.heap.size t ht8)
        have haf := ((hI.dev.alloc (.map #[] 0)).alloc (.cells #[.pointer (some ⟨g, 0, none⟩), .int .i64 (t : Int), .int .i64 0, .map (some wr.heap.size)] 174)).free (3 + t)
        have hst := hI.step ht8 hgl rfl
        replace hst := Lib.hid hst
        clear hI
        go_wp2_with fail
        go_roundw
        case rel => exact ⟨t + 1, by omega, by go_num, hst.out⟩
        case measure => simp [intOf]; omega
      · obtain rfl : t = 8 := by omega
        have hx := Lib.hid (hfin.out wr hI)
        clear hI
        go_wp2_with fail
        exact hx.out

theorem newP_from (n : Nat) : fromP n (List.replicate (n * 8) 0) = newP n := by
  unfold fromP newP
  congr 1
  apply List.ext_getElem?
  intro i
  rcases Nat.lt_or_ge i n with h | h
  · rw [List.getElem?_map, List.getElem?_range h, List.getElem?_replicate, if_pos h]
    simp only [Option.map_some, lnOf, List.drop_replicate, List.take_replicate]
    congr 3
    omega
  · rw [List.getElem?_eq_none (by simpa using h), List.getElem?_eq_none (by simpa using h)]
theorem u64s_rep (n : Nat) : u64s (List.replicate n 0) = List.replicate n (.int .u64 0) := by simp [u64s]
theorem own_rep (w : World) (n : Nat) (hn : n ≤ maxLen) : (w.alloc (.cells (Array.replicate n (.int .u64 0)) 27)).ownsRow 0 27 1 (.slice (some ⟨w.heap.size, 0, none⟩) n n) n (u64s (List.replicate n 0)) := by
  rw [u64s_rep]
  refine ⟨by simp, .inr ⟨w.heap.size, n, _, rfl, Nat.zero_le _, heap_alloc_new, Nat.le_refl _, hn, by simp, ?_⟩⟩
  rw [Array.toList_replicate]; simp
def NewPost (w : World) (F : Own) (o : Nat) (R : Dv) (e : Ending) (w' : World) : Prop :=
  ∃ L F', e = .returned (.tuple #[.pointer (some ⟨L.g, 0, none⟩), .int .i64 0]) ∧ DevSt w' F' o L 0 R ∧ Ext w F F' ∧ Below w.heap.size w w'
set_option maxHeartbeats 2000000 in
theorem new_any (w : World) (F : Own) (o n : Nat) (h1 : 1 ≤ n) (h2 : n ≤ 4096) : Calls Try.prog 8 #[.int .i64 (n : Int)] w (NewPost w F o (newP n)) := by
  generalize hpost : NewPost w F o (newP n) = post
  have hmk := make1 (P := Try.prog) 70 27 (.int .u64 0) 8 Try.underlying70 infoU64 rfl (n * 8) (by omega) (by omega) w
  rw [show ((n * 8 : Nat) : Int) = (n : Int) * 8 from by simp] at hmk
  have hof := of_any (F := F.put w.heap.size (o, 1, 0)) (o := o) n w.heap.size (n * 8) (List.replicate (n * 8) 0) (by simp) h1 h2 (fun x hx => by rw [List.eq_of_mem_replicate hx]; omega) (own_rep w (n * 8) (by unfold maxLen; omega)) (Own.put_at _ _ _)
  have hd1 : decide ((n : Int) < 1) = false := decide_eq_false (by omega)
  have hn1 : ¬ (n : Int) < 1 := by omega
  have hd2 : ¬ (4096 : Int) < (n : Int) := by omega
  replace hof := Lib.hid hof
  replace hpost := Lib.hid hpost
  go_enter Try.func8, Try.ntmps8
  go_wp2_with fail
  refine hof.out.mono ?_
  rintro e w' ⟨L, F', rfl, hD, _, hx, hB⟩
  have hfin : post (.returned (.tuple #[.pointer (some ⟨L.g, 0, none⟩), .int .i64 0])) w' := by
    rw [← hpost.out]
    rw [newP_from] at hD
    exact ⟨L, F', rfl, hD, ((Ext.refl w F).put (Nat.le_refl _) _).trans hx (by simp), ((Below.refl w.heap.size w).alloc (Nat.le_refl _) _).trans (hB.mono (by simp))⟩
  replace hfin := Lib.hid hfin
  clear hD hx hB
  go_wp2_with fail
  first | exact hfin.out | (go_ret2; exact hfin.out)
theorem new_bad (w : World) (n : Int) (h : n < 1 ∨ 4096 < n) : Calls Try.prog 8 #[.int .i64 n] w fun e w' => e = .returned (.tuple #[.pointer none, .int .i64 1]) ∧ w = w' := by
  by_cases h1 : n < 1
  · have hd1 : decide (n < 1) = true := decide_eq_true h1
    go_enter Try.func8, Try.ntmps8
    go_wp2_with fail
    go_ret2
    exact ⟨rfl, rfl⟩
  · have hd1 : decide (n < 1) = false := decide_eq_false h1
    have h2 : (4096 : Int) < n := by omega
    go_enter Try.func8, Try.ntmps8
    go_wp2_with fail
    go_ret2
    exact ⟨rfl, rfl⟩
end Go.Proofs.Ytjmdibgncaljaaa.Dev
