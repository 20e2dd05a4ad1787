/- The law's opening: what stands when its rounds begin. -/
import Derived.Test.YtjmdibgncaljaaaU2
namespace Go.Proofs.Ytjmdibgncaljaaa
open Go.RowKit Dev
theorem u_new {w2 : World} {F1 : Dev.Own} {L : Lay} {R0 : Dv} (h : DevSt w2 F1 0 L 0 R0) (lb : Nat) :
    ∃ w3, w2.alloc (.cells #[.pointer (some ⟨L.g, 0, none⟩), .pointer (some ⟨lb, 0, none⟩), .slice none 0 0, .slice none 0 0] 72) = w3 ∧ Below w2.heap.size w2 w3 ∧
      Has w3 w2.heap.size [.pointer (some ⟨L.g, 0, none⟩), .pointer (some ⟨lb, 0, none⟩), .slice none 0 0, .slice none 0 0] 72 ∧ DevSt w3 F1 0 L 0 R0 :=
  ⟨_, rfl, (Below.refl _ _).alloc (Nat.le_refl _) _, Has.new w2 _ _, h.alloc _⟩
theorem own_at {w : World} {T : TypeId} {n c : Nat} {a : Option Addr} {xs : List Value} (h : w.ownsRow 0 T 1 (.slice a n c) n xs) (hn : 0 < n) : ∃ g tl, a = some ⟨g, 0, none⟩ ∧ Has w g (xs ++ tl) T := by
  rcases h.2 with ⟨h1, h2⟩ | ⟨g, cap, cur, hv, _, hg, _, _, hcs, ht⟩
  · exfalso
    simp only [Value.slice.injEq] at h1
    omega
  · simp only [Value.slice.injEq] at hv
    refine ⟨g, cur.toList.drop (n * 1), hv.1, ?_⟩
    have e : (xs ++ cur.toList.drop (n * 1)).toArray = cur := by
      rw [← ht, List.take_append_drop]
    show w.heap[g]? = some (.cells (xs ++ cur.toList.drop (n * 1)).toArray T)
    rw [e]; exact hg
theorem law_start {w1 w2 w3 w4 : World} {F1 : Dev.Own} {L : Lay} {R0 : Dv} {ub lb oc : Nat} {oa : Option Addr} (hF1n : ∀ k, w1.heap.size ≤ k → F1 k = none)
    (hlb : lb = w1.heap.size) (hB2 : Below w1.heap.size w1 w2) (hlg : LogAt w2 lb (L.tb 0)) (hub : ub = w2.heap.size) (hB3 : Below w2.heap.size w2 w3)
    (hU3 : Has w3 ub [.pointer (some ⟨L.g, 0, none⟩), .pointer (some ⟨lb, 0, none⟩), .slice none 0 0, .slice none 0 0] 72) (hD3 : DevSt w3 F1 0 L 0 R0) (hR4 : RowB w3 27 1 56 (u64s (wordsD R0)) oa oc w4)
    (hun : Und R0 (fun _ => 0) [] 0 [0]) (hz : notes0 R0 = []) (hO : Ok10 R0) (hv : ∀ o, o < 640 → valueP R0 o = 0) :
    Has w4 ub [.pointer (some ⟨L.g, 0, none⟩), .pointer (some ⟨lb, 0, none⟩), .slice none 0 0, .slice none 0 0] 72 ∧
    ∃ ob, oa = some ⟨ob, 0, none⟩ ∧ ∃ w5, w4.setCell ⟨ub, 2, none⟩ (.slice oa 56 oc) = w5 ∧ OutI w5 F1 L ub lb (fun _ => 0) 0 R0 F1 ob oc (.slice none 0 0) w5 ∧ Base w5 F1 L ub lb ∧ Below w2.heap.size w2 w5 ∧ ∀ k, w5.heap.size ≤ k → F1 k = none := by
  have hw := wordsD_eq R0 (fun _ => 0) (fun o _ _ h3 => hv o h3)
  have hU4 := hU3.only (Only.of_below hR4.b) (Nat.not_le.2 hU3.lt)
  have hul := hU3.lt
  obtain ⟨ob, tl, rfl, hob⟩ := own_at hR4.o (by decide)
  have hobn := hR4.ob ob rfl
  have hs2 := hB2.size
  have hs3 := hB3.size
  have hs4 := hR4.b.size
  have hll := Has.lt hlg
  have hlt : lb < w2.heap.size := hll
  refine ⟨hU4, ob, rfl, _, rfl, ?_⟩
  have ho : Only (fun k => k = ub) w4 (w4.setCell ⟨ub, 2, none⟩ (.slice (some ⟨ob, 0, none⟩) 56 oc)) := only_set _ _ _ _
  have hs5 := ho.size
  have hd4 : DevSt w4 F1 0 L 0 R0 := hD3.below hR4.b
  have hfu : F1 ub = none := hF1n ub (by omega)
  have hb5 : Below w2.heap.size w2 (w4.setCell ⟨ub, 2, none⟩ (.slice (some ⟨ob, 0, none⟩) 56 oc)) :=
    (hB3.trans (hR4.b.mono hs3)).trans (ho.below (by omega) (fun k _ e => by omega))
  rw [hw] at hob
  exact ⟨⟨hd4.kept ho (Ext.refl _ _) (fun k r hk e => by rw [hk, hfu] at e; cases e), ⟨Ext.refl _ _, Only.refl _ _⟩, hU4.set 2 _, NewR.only ⟨tl, hob⟩ ho (by omega), (by omega), hF1n ob (by omega), hun, hz, hO, fun o _ _ h3 => hv o h3⟩,
    ⟨Has.only (LogAt.below (LogAt.below hlg hB3) hR4.b) ho (by omega), hF1n lb (by omega), by omega, by omega, hfu⟩, hb5, fun k hk => hF1n k (by omega)⟩
theorem law_start2 {W w5 w8 w9 : World} {F1 : Dev.Own} {L : Lay} {R0 : Dv} {ub lb ob oc gc m : Nat} {ga : Option Addr} {nv : Value} {rs : List (List CS)} {vs : List Value} (h : OutI w5 F1 L ub lb (fun _ => 0) 0 R0 F1 ob oc nv w5) (hb : Base w5 F1 L ub lb)
    (hBW : Below W.heap.size W w5) (hFW : ∀ k, k < W.heap.size → F1 k = none) (hF5 : ∀ k, w5.heap.size ≤ k → F1 k = none) (hub : W.heap.size ≤ ub)
    (h8 : ((w5.alloc (.cells #[.int .u8 3] 5)).alloc (.cells #[.slice (some ⟨w5.heap.size, 0, none⟩) 1 1, .int .u64 5] 75)).alloc (.cells #[.slice (some ⟨w5.heap.size + 1, 0, none⟩) 1 1] 76) = w8)
    (hm : m = min 2 rs.length) (own : w9.ownsRow 0 76 1 (.slice ga (1 + m) gc) (1 + m) ([.slice (some ⟨w5.heap.size + 1, 0, none⟩) 1 1] ++ vs.take m)) (only : Only (fun k => Value.ownBlock (.slice (some ⟨w5.heap.size + 1 + 1, 0, none⟩) 1 1) = some k) w8 w9)
    (fresh : ∀ k, Value.ownBlock (.slice ga (1 + m) gc) = some k → Value.ownBlock (.slice (some ⟨w5.heap.size + 1 + 1, 0, none⟩) 1 1) = some k ∨ w8.heap.size ≤ k) (hl : vs.length = rs.length)
    (hvs : ∀ (i : Nat) (l : List CS), rs[i]? = some l → ∃ y, vs[i]? = some y ∧ SavesV W y l) :
    ∃ gr, ga = some ⟨gr, 0, none⟩ ∧ OutI w9 F1 L ub lb (fun _ => 0) 0 R0 F1 ob oc nv w9 ∧ Base w9 F1 L ub lb ∧ ArgsV w9 F1 ub gr (rowsL rs) := by
  have e8 : w8.heap.size = w5.heap.size + 3 := by rw [← h8]; simp only [World.size_alloc]
  have b58 : Below w5.heap.size w5 w8 := by
    rw [← h8]
    exact (((Below.refl _ _).alloc (Nat.le_refl _) _).alloc (by rw [World.size_alloc]; omega) _).alloc (by rw [World.size_alloc, World.size_alloc]; omega) _
  have b89 : Below w5.heap.size w8 w9 := only.below (by omega) (fun k _ e => by
    simp only [Value.ownBlock, Option.some.injEq] at e
    omega)
  have b59 := b58.trans b89
  obtain ⟨gr, tl, rfl, hgr⟩ := own_at own (by omega)
  have hgn : w5.heap.size + 2 ≤ gr := by
    rcases fresh gr rfl with e | e
    · simp only [Value.ownBlock, Option.some.injEq] at e
      omega
    · omega
  have h2 := h.below b59
  have hult := hb.lt
  have hlog := hb.lg.below b59
  have hsz := b59.size
  have k0 : Has w8 w5.heap.size [.int .u8 3] 5 := by rw [← h8]; exact ((Has.new w5 [.int .u8 3] 5).alloc _).alloc _
  have k1 : Has w8 (w5.heap.size + 1) [.slice (some ⟨w5.heap.size, 0, none⟩) 1 1, .int .u64 5] 75 := by
    have := Has.new (w5.alloc (.cells #[.int .u8 3] 5)) [.slice (some ⟨w5.heap.size, 0, none⟩) 1 1, .int .u64 5] 75
    rw [World.size_alloc] at this
    rw [← h8]; exact this.alloc _
  have hn : ∀ k, k < w5.heap.size + 2 → ¬ (Value.ownBlock (.slice (some ⟨w5.heap.size + 1 + 1, 0, none⟩) 1 1) = some k) := fun k hk e => by
    simp only [Value.ownBlock, Option.some.injEq] at e
    omega
  have e1 : vs.take m = vs.take 2 := by
    rw [hm, ← hl, ← List.take_eq_take_min]
  rw [e1] at hgr
  refine ⟨gr, rfl, ⟨h2.d, ⟨Ext.refl _ _, Only.refl _ _⟩, h2.u, h2.ro, h2.bo, h2.fo, h2.un, h2.z, h2.o, h2.v⟩, ⟨hlog, hb.fl, hb.ne, by omega, hb.fu⟩, ?_⟩
  exact args_mk (W := W) (b0 := w5.heap.size) (b1 := w5.heap.size + 1) (vs := vs) (tl := tl) (hBW.trans (b59.mono hBW.size)) hFW hub (k0.only only (hn _ (by omega))) (k1.only only (hn _ (by omega))) (hF5 _ (by omega)) (hF5 _ (by omega)) (by omega) (by omega) hgr (hF5 _ (by omega)) (by omega) hl hvs
end Go.Proofs.Ytjmdibgncaljaaa
