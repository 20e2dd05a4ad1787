/- SchedStores: the law's walk. -/
import Derived.Test.YtdminbjenbbpaaaU4
import Derived.Test.YtdminbjenbbpaaaS9
import Derived.Deep.RegionWith
import Derived.Deep.DeepCutAuto
namespace Go.Proofs.Ytdminbjenbbpaaa
open Go.RowKit

set_option maxRecDepth 100000 in
theorem stores_long (a0 : Option Addr) (len0 cap0 : Nat) (a1 : Option Addr) (len1 cap1 : Nat) (a2 : Option Addr) (len2 cap2 : Nat) (w : World) (h : 30 < len0 ∨ 30 < len1 ∨ 100 < len2) :
    Calls Try.prog 8 #[.slice a0 len0 cap0, .slice a1 len1 cap1, .slice a2 len2 cap2] w fun e w' => e = .returned (.bool true) ∧ Below w.heap.size w w' := by
  by_cases h0 : (30 : Int) < len0
  · go_enter Try.func8, Try.ntmps8
    go_wp2_with fail
    refine (awake_any w).mono ?_
    rintro e w1 ⟨rfl, hB1⟩
    go_wp2_with fail
    refine (awake_any w1).mono ?_
    rintro e w2 ⟨rfl, hB2⟩
    go_wp2_with fail
    go_ret
    exact ⟨rfl, hB1.trans (hB2.mono hB1.size)⟩
  by_cases h1 : (30 : Int) < len1
  · go_enter Try.func8, Try.ntmps8
    go_wp2_with fail
    refine (awake_any w).mono ?_
    rintro e w1 ⟨rfl, hB1⟩
    go_wp2_with fail
    refine (awake_any w1).mono ?_
    rintro e w2 ⟨rfl, hB2⟩
    go_wp2_with fail
    go_ret
    exact ⟨rfl, hB1.trans (hB2.mono hB1.size)⟩
  have h2 : (100 : Int) < len2 := by omega
  go_enter Try.func8, Try.ntmps8
  go_wp2_with fail
  refine (awake_any w).mono ?_
  rintro e w1 ⟨rfl, hB1⟩
  go_wp2_with fail
  refine (awake_any w1).mono ?_
  rintro e w2 ⟨rfl, hB2⟩
  go_wp2_with fail
  go_ret
  exact ⟨rfl, hB1.trans (hB2.mono hB1.size)⟩

theorem blw_drew {B : Nat} {w w' : World} (h : Below B w w') : Below B w w'.drew := ⟨h.os, h.tape, h.output, h.size, h.block⟩
def pick {α : Type} (x y : α) (i : Nat) : α := if i = 0 then x else y
/-- The world behind the two writers and their slice. -/
def wrW (w2 : World) (L : Lay) (v0 v1 : Value) : World :=
  ((w2.alloc (.cells #[.pointer (some ⟨L.tb 0, 0, none⟩), .int .u64 64, v0, .int .i64 0] 60)).alloc (.cells #[.pointer (some ⟨L.tb 1, 0, none⟩), .int .u64 64, v1, .int .i64 0] 60)).alloc
    (.cells #[.pointer (some ⟨w2.heap.size, 0, none⟩), .pointer (some ⟨w2.heap.size + 1, 0, none⟩)] 58)
theorem wrW_below (w2 : World) (L : Lay) (v0 v1 : Value) : Below w2.heap.size w2 (wrW w2 L v0 v1) :=
  (((Below.refl _ _).alloc (Nat.le_refl _) _).alloc (by simp) _).alloc (by simp; omega) _
theorem wrW_size (w2 : World) (L : Lay) (v0 v1 : Value) : (wrW w2 L v0 v1).heap.size = w2.heap.size + 3 := by simp [wrW]
theorem wrW_has (w2 : World) (L : Lay) (v0 v1 : Value) : Has (wrW w2 L v0 v1) w2.heap.size (wst (L.tb 0) v0 0) 60 ∧ Has (wrW w2 L v0 v1) (w2.heap.size + 1) (wst (L.tb 1) v1 0) 60 ∧
    Has (wrW w2 L v0 v1) (w2.heap.size + 2) [.pointer (some ⟨w2.heap.size, 0, none⟩), .pointer (some ⟨w2.heap.size + 1, 0, none⟩)] 58 := by
  refine ⟨((Has.new w2 (wst (L.tb 0) v0 0) 60).alloc _).alloc _, ?_, ?_⟩
  · have := (Has.new (w2.alloc (.cells #[.pointer (some ⟨L.tb 0, 0, none⟩), .int .u64 64, v0, .int .i64 0] 60)) (wst (L.tb 1) v1 0) 60).alloc (.cells #[.pointer (some ⟨w2.heap.size, 0, none⟩), .pointer (some ⟨w2.heap.size + 1, 0, none⟩)] 58)
    rw [World.size_alloc] at this
    exact this
  · have := Has.new ((w2.alloc (.cells #[.pointer (some ⟨L.tb 0, 0, none⟩), .int .u64 64, v0, .int .i64 0] 60)).alloc (.cells #[.pointer (some ⟨L.tb 1, 0, none⟩), .int .u64 64, v1, .int .i64 0] 60)) [.pointer (some ⟨w2.heap.size, 0, none⟩), .pointer (some ⟨w2.heap.size + 1, 0, none⟩)] 58
    rw [World.size_alloc, World.size_alloc] at this
    exact this

theorem runs_at (w w2 wx : World) (F : Own) (L : Lay) (a0 : Option Addr) (cap0 : Nat) (la : List Nat) (a1 : Option Addr) (cap1 : Nat) (lb : List Nat) (a2 : Option Addr) (cap2 : Nat) (ps : List Int)
    (hla : Rd w (.slice a0 la.length cap0) la.length (u64s la)) (hlb : Rd w (.slice a1 lb.length cap1) lb.length (u64s lb)) (hps : Rd w (.slice a2 ps.length cap2) ps.length (ps.map (.int .i64)))
    (hva : ∀ x ∈ la, x < 18446744073709551616) (hvb : ∀ x ∈ lb, x < 18446744073709551616) (hvp : ∀ p ∈ ps, -9223372036854775808 ≤ p ∧ p ≤ 9223372036854775807) (h30 : la.length ≤ 30) (h31 : lb.length ≤ 30) (h100 : ps.length ≤ 100)
    (hD : DevSt w2 F 0 L 0 (newP 2)) (hE : ∀ k, k < w.heap.size → F k = none) (hB2 : Below w.heap.size w w2)
    (hx : Below (w2.heap.size + 3) (wrW w2 L (.slice a0 la.length cap0) (.slice a1 lb.length cap1)) wx) (q : Nat) (hq : w2.heap.size + 3 ≤ q) (hH : Has wx q [wval w2.heap.size, wval (w2.heap.size + 1)] 86) :
    Calls Try.prog 13 #[.slice (some ⟨q, 0, none⟩) 2 2, .slice a2 ps.length cap2] wx (WRun wx (F.trim w2) L [w2.heap.size, w2.heap.size + 1] (pick (.slice a0 la.length cap0) (.slice a1 lb.length cap1)) (pick la lb) ps.length) := by
  obtain ⟨g0, g1, g2⟩ := wrW_has w2 L (.slice a0 la.length cap0) (.slice a1 lb.length cap1)
  have hw4 := wrW_below w2 L (.slice a0 la.length cap0) (.slice a1 lb.length cap1)
  have hz4 := wrW_size w2 L (.slice a0 la.length cap0) (.slice a1 lb.length cap1)
  have hxO := Only.of_below hx
  have hxs := hx.size
  have hb2 := hB2.size
  have hbx : Below w2.heap.size w2 wx := hw4.trans (hx.mono (by omega))
  have hbw : Below w.heap.size w wx := hB2.trans (hbx.mono hb2)
  refine wrunall_any w.heap.size wx (F.trim w2) L (newP 2) _ 2 _ _ _ a2 cap2 ps (hD.trim.below hbx) DOk.new rfl ?_ ?_ ?_ ?_ ?_ ?_ ?_ ?_ ?_ ?_ ?_ ?_ (hps.kept hbw) ?_ h100 hvp
  · intro i; unfold pick; split
    · exact ⟨_, _, rfl⟩
    · exact ⟨_, _, rfl⟩
  · intro i; unfold pick; split
    · exact ⟨h30, hva⟩
    · exact ⟨h31, hvb⟩
  · intro i b hi
    match i, hi with
    | 0, hi => simp at hi; subst hi; exact g0.only hxO (by omega)
    | 1, hi => simp at hi; subst hi; exact g1.only hxO (by omega)
  · intro i _; unfold pick; split
    · exact hla.kept hbw
    · exact hlb.kept hbw
  · intro i k hl hk
    unfold pick at hl hk
    split at hl
    · rename_i hi; rw [if_pos hi] at hk; exact hla.lt (by intro e; have := congrArg List.length e; rw [u64s_len] at this; simp at this; rw [this] at hl; simp at hl) hk
    · rename_i hi; rw [if_neg hi] at hk; exact hlb.lt (by intro e; have := congrArg List.length e; rw [u64s_len] at this; simp at this; rw [this] at hl; simp at hl) hk
  · exact Rd.of_has hH 2 2
  · intro k hk; rw [F.trim_ext w2 k (by omega)]; exact hE k hk
  · intro k hk; exact F.trim_new w2 (by omega)
  · omega
  · intro b hb
    simp at hb
    exact ⟨by omega, F.trim_new w2 (by omega)⟩
  · intro i j b hi hj
    match i, j, hi, hj with
    | 0, 0, _, _ => rfl
    | 1, 1, _, _ => rfl
    | 0, 1, hi, hj => simp at hi hj; omega
    | 1, 0, hi, hj => simp at hi hj; omega
  · intro k hk
    simp [Value.ownBlock] at hk
    subst hk
    exact ⟨hH.lt, F.trim_new w2 (by omega), by simp; omega⟩
  · intro hl k hk
    exact hps.lt (by intro e; have := congrArg List.length e; simp at this; rw [this] at hl; simp at hl) hk

/-- What lies behind the run: the log's box, the writers, the device. -/
def Mid (w : World) (n : Nat) (L : Lay) (vs : Nat → Value) (ls : Nat → List Nat) (np : Nat) (zv : Value) (wr : World) : Prop :=
  ∃ z F' st sa sc ea, zv = .pointer (some ⟨z, 0, none⟩) ∧ Has wr z [.slice sa st.length sc, .slice ea 2 2] 27 ∧ Rd wr (.slice sa st.length sc) st.length ((natsI st).map (.int .i64)) ∧ (∀ k, Value.ownBlock (.slice sa st.length sc) = some k → k < wr.heap.size) ∧
    (∀ k ∈ st, k < 2) ∧ st.length ≤ np ∧ (∃ R, DevSt wr F' 0 L (2 * st.length) R ∧ DOk R (accAll ls st).want (accAll ls st).n) ∧ Has wr n (wst (L.tb 0) (vs 0) ((accAll ls st).nx 0)) 60 ∧ Has wr (n + 1) (wst (L.tb 1) (vs 1) ((accAll ls st).nx 1)) 60 ∧
    Has wr (n + 2) [.pointer (some ⟨n, 0, none⟩), .pointer (some ⟨n + 1, 0, none⟩)] 58 ∧ Below w.heap.size w wr ∧ F' z = none ∧ (∀ k, n ≤ k → k < n + 3 → F' k = none) ∧ z < wr.heap.size ∧ (∀ k, k < w.heap.size → F' k = none) ∧ n + 3 ≤ z ∧ w.heap.size ≤ n

theorem mid_of {w w4 wx w5 wz : World} {n z np : Nat} {L : Lay} {F : Own} {vs : Nat → Value} {ls : Nat → List Nat} {F' : Own} {st : List Nat} {sa : Option Addr} {sc : Nat} {ea : Option Addr}
    (hwx : Below (n + 3) w4 wx) (h4 : w4.heap.size = n + 3) (h2 : Has w4 (n + 2) [.pointer (some ⟨n, 0, none⟩), .pointer (some ⟨n + 1, 0, none⟩)] 58) (hB : Below w.heap.size w w4) (hn : w.heap.size ≤ n) (hF : ∀ k, k < w.heap.size → F k = none) (hFn : ∀ k, n ≤ k → F k = none)
    (r1 : Rd w5 (.slice sa st.length sc) st.length ((natsI st).map (.int .i64))) (r2 : ∀ k, Value.ownBlock (.slice sa st.length sc) = some k → wx.heap.size < k ∧ k < w5.heap.size) (r3 : ∀ k ∈ st, k < 2) (r4 : st.length ≤ np)
    (r5 : ∃ R, DevSt w5 F' 0 L (2 * st.length) R ∧ DOk R (accAll ls st).want (accAll ls st).n) (r6 : ∀ i b, [n, n + 1][i]? = some b → Has w5 b (wst (L.tb i) (vs i) ((accAll ls st).nx i)) 60) (r7 : Ext wx F F') (r8 : Only (fun k => Mine F 0 k ∨ k ∈ [n, n + 1]) wx w5)
    (hz : (n + 3 ≤ z ∧ z < wx.heap.size) ∨ z = w5.heap.size) (ho : Only (fun k => k = z) w5 wz) (hbox : Has wz z [.slice sa st.length sc, .slice ea 2 2] 27) :
    Mid w n L vs ls np (.pointer (some ⟨z, 0, none⟩)) wz := by
  have hxs := hwx.size
  have hs5 := r8.size
  have hMn : ∀ k, n ≤ k → ¬ Mine F 0 k := fun k hk ⟨r, s⟩ => by rw [hFn k hk] at s; cases s
  have hMw : ∀ k, k < w.heap.size → ¬ Mine F 0 k := fun k hk ⟨r, s⟩ => by rw [hF k hk] at s; cases s
  have hFz : F'.trim w5 z = none := by
    rcases hz with ⟨h1, h2⟩ | h1
    · rw [F'.trim_ext w5 z (by omega), r7 z h2]; exact hFn z (by omega)
    · exact F'.trim_new w5 (by omega)
  have hzk : ∀ k, Value.ownBlock (.slice sa st.length sc) = some k → k ≠ z := fun k hk e => by
    have := r2 k hk
    rcases hz with ⟨h1, h2⟩ | h1 <;> omega
  have hb : Below w.heap.size w wz :=
    ((hB.trans (hwx.mono (by omega))).trans (r8.below (B := w.heap.size) (by omega) (fun k _ hk => by
      rcases Nat.lt_or_ge k w.heap.size with h1 | h1
      · rcases hk with hk | hk
        · exact absurd hk (hMw k h1)
        · simp at hk; omega
      · exact h1))).trans (ho.below (B := w.heap.size) (by omega) (fun k _ hk => by rcases hz with ⟨h1, h2⟩ | h1 <;> omega))
  obtain ⟨R, q1, q2⟩ := r5
  have hnz : n ≠ z ∧ n + 1 ≠ z ∧ n + 2 ≠ z := by rcases hz with ⟨h1, h2⟩ | h1 <;> omega
  have hFk : ∀ k, k < n + 3 → F'.trim w5 k = F k := fun k hk => by
    rw [F'.trim_ext w5 k (by omega)]; exact r7 k (by omega)
  refine ⟨z, F'.trim w5, st, sa, sc, ea, rfl, hbox, r1.only ho (fun k hk e => hzk k hk e), fun k hk => by have := r2 k hk; have := ho.size; omega, r3, r4, ⟨R, q1.trim.kept ho (Ext.refl _ _) (fun k r e s => by subst e; rw [hFz] at s; cases s), q2⟩,
    (r6 0 n rfl).only ho hnz.1, (r6 1 (n + 1) rfl).only ho hnz.2.1, ((h2.only (Only.of_below hwx) (by omega)).only r8 ?_).only ho hnz.2.2, hb, hFz, fun k h1 h2 => by rw [hFk k h2]; exact hFn k h1, hbox.lt, fun k hk => by rw [hFk k (by omega)]; exact hF k hk, by rcases hz with ⟨h1, _⟩ | h1 <;> omega, hn⟩
  rintro (s | s)
  · exact hMn _ (by omega) s
  · simp at s

end Go.Proofs.Ytdminbjenbbpaaa
