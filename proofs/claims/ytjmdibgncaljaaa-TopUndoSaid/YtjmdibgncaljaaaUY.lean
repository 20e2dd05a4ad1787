/- The law's memory: its argument, the saved and the new contents; what a round keeps. -/
import Derived.Test.YtjmdibgncaljaaaUX
namespace Go.Proofs.Ytjmdibgncaljaaa
open Go.RowKit Dev
/-- A save of the law. -/
structure CS where
  ws : List Nat
  v : Nat
def BytesV (w : World) (v : Value) (ws : List Nat) : Prop := ∃ (a : Option Addr) (c : Nat), v = .slice a ws.length c ∧ ws.length ≤ c ∧ ws.length ≤ 9223372036854775807 ∧ (∀ x ∈ ws, x < 256) ∧ Rd w v ws.length (u8s ws)
def svC (l : List (Value × Nat)) : List Value := l.flatMap fun p => [p.1, .int .u64 (p.2 : Int)]
def SavesV (w : World) (v : Value) (l : List CS) : Prop := ∃ (a : Option Addr) (c : Nat) (ps : List (Value × Nat)), v = .slice a l.length c ∧ l.length ≤ c ∧ l.length ≤ 9223372036854775807 ∧ Rd w v l.length (svC ps) ∧ ∀ (i : Nat) (x : CS), l[i]? = some x → ∃ y, ps[i]? = some (y, x.v) ∧ BytesV w y x.ws ∧ x.v < 18446744073709551616
def RoundsV (w : World) (v : Value) (ll : List (List CS)) : Prop := ∃ (a : Option Addr) (c : Nat) (vs : List Value), v = .slice a ll.length c ∧ ll.length ≤ c ∧ ll.length ≤ 9223372036854775807 ∧ vs.length = ll.length ∧ Rd w v ll.length vs ∧ (∀ y ∈ vs, ∃ a n c, y = .slice a n c) ∧ ∀ (i : Nat) (l : List CS), ll[i]? = some l → ∃ y, vs[i]? = some y ∧ SavesV w y l
variable {w w' : World}
theorem BytesV.kept {v : Value} {ws : List Nat} (h : BytesV w v ws) (hb : Below w.heap.size w w') : BytesV w' v ws := by
  obtain ⟨a, c, h1, h2, h3, h4, h5⟩ := h
  exact ⟨a, c, h1, h2, h3, h4, h5.kept hb⟩
theorem SavesV.kept {v : Value} {l : List CS} (h : SavesV w v l) (hb : Below w.heap.size w w') : SavesV w' v l := by
  obtain ⟨a, c, ps, h1, h2, h3, h4, h5⟩ := h
  refine ⟨a, c, ps, h1, h2, h3, h4.kept hb, fun i x hx => ?_⟩
  obtain ⟨y, g1, g2, g3⟩ := h5 i x hx
  exact ⟨y, g1, g2.kept hb, g3⟩
theorem svC_get : ∀ (l : List (Value × Nat)) (i : Nat) (y : Value) (v : Nat), l[i]? = some (y, v) → (svC l)[i * 2]? = some y ∧ (svC l)[i * 2 + 1]? = some (.int .u64 (v : Int))
  | [], i, _, _, h => by simp at h
  | p :: l, 0, y, v, h => by
    simp only [List.getElem?_cons_zero, Option.some.injEq] at h
    subst h
    exact ⟨rfl, rfl⟩
  | p :: l, i + 1, y, v, h => by
    simp only [List.getElem?_cons_succ] at h
    obtain ⟨h1, h2⟩ := svC_get l i y v h
    have e : svC (p :: l) = [p.1, .int .u64 (p.2 : Int)] ++ svC l := rfl
    rw [e]
    constructor
    · rw [List.getElem?_append_right (by show 2 ≤ (i + 1) * 2; omega), show (i + 1) * 2 - [p.1, Value.int .u64 (p.2 : Int)].length = i * 2 from by show (i + 1) * 2 - 2 = _; omega]; exact h1
    · rw [List.getElem?_append_right (by show 2 ≤ (i + 1) * 2 + 1; omega), show (i + 1) * 2 + 1 - [p.1, Value.int .u64 (p.2 : Int)].length = i * 2 + 1 from by show (i + 1) * 2 + 1 - 2 = _; omega]; exact h2
/-- A save in a row of saves: its two cells. -/
theorem SavesV.at {a : Option Addr} {n c : Nat} {l : List CS} (h : SavesV w (.slice a n c) l) {i : Nat} {x : CS} (hx : l[i]? = some x) : ∃ bl ol y, a = some ⟨bl, ol, none⟩ ∧ BytesV w y x.ws ∧ x.v < 18446744073709551616 ∧ w.cell? ⟨bl, ol + i * 2, none⟩ = some y ∧ w.cell? ⟨bl, ol + i * 2 + 1, none⟩ = some (.int .u64 (x.v : Int)) := by
  obtain ⟨a', c', ps, h1, h2, h3, h4, h5⟩ := h
  simp only [Value.slice.injEq] at h1
  obtain ⟨rfl, rfl, rfl⟩ := h1
  have hi : i < l.length := by
    rcases Nat.lt_or_ge i l.length with g | g
    · exact g
    · rw [List.getElem?_eq_none g] at hx; cases hx
  obtain ⟨bl, ol, cl, ea, fa⟩ := h4.cells (by omega)
  simp only [Value.slice.injEq, true_and] at ea
  obtain ⟨rfl, _⟩ := ea
  obtain ⟨y, g1, g2, g3⟩ := h5 i x hx
  obtain ⟨k1, k2⟩ := svC_get ps i y _ g1
  have k3 := fa _ _ k2
  rw [← Nat.add_assoc] at k3
  exact ⟨bl, ol, y, rfl, g2, g3, fa _ _ k1, k3⟩
/-- The new contents: a row at the head of its block. -/
def NewR (w : World) (nb : Nat) (l : List Nat) : Prop := ∃ tl : List Value, Has w nb (u64s l ++ tl) 27
theorem NewR.rd {nb nc : Nat} {l : List Nat} (h : NewR w nb l) (hl : l.length = 56) : Rd w (.slice (some ⟨nb, 0, none⟩) 56 nc) 56 (u64s l) := by
  obtain ⟨tl, h⟩ := h
  refine ⟨_, nc, rfl, .inr ⟨nb, 0, rfl, fun j u hj => ?_⟩⟩
  rw [Nat.zero_add]
  refine h.cell ?_
  rw [List.getElem?_append_left]
  · exact hj
  · rcases Nat.lt_or_ge j (u64s l).length with g | g
    · exact g
    · rw [List.getElem?_eq_none g] at hj; cases hj
theorem NewR.lt {nb : Nat} {l : List Nat} (h : NewR w nb l) : nb < w.heap.size := by obtain ⟨_, h⟩ := h; exact h.lt
theorem NewR.only {S : Nat → Prop} {nb : Nat} {l : List Nat} (h : NewR w nb l) (ho : Only S w w') (hs : ¬ S nb) : NewR w' nb l := by obtain ⟨tl, h⟩ := h; exact ⟨tl, h.only ho hs⟩
theorem NewR.set {nb : Nat} {l : List Nat} (h : NewR w nb l) {i v : Nat} (hi : i < l.length) : NewR (w.setCell ⟨nb, i, none⟩ (.int .u64 (v : Int))) nb (l.set i v) := by
  obtain ⟨tl, h⟩ := h
  refine ⟨tl, ?_⟩
  have := h.set i (.int .u64 (v : Int))
  rwa [List.set_append_left _ _ (by rw [u64s_len]; exact hi), ← u64s_set] at this
theorem NewR.of_own {nb nc : Nat} {l : List Nat} (h : w.ownsRow 0 27 1 (.slice (some ⟨nb, 0, none⟩) 56 nc) 56 (u64s l)) : NewR w nb l := by
  rcases h.2 with ⟨h1, _⟩ | ⟨g, cap, cur, hv, _, hg, _, _, hcs, ht⟩
  · simp at h1
  · simp only [Value.slice.injEq, Option.some.injEq, Addr.mk.injEq, and_true, true_and] at hv
    obtain ⟨rfl, rfl⟩ := hv
    refine ⟨cur.toList.drop (56 * 1), ?_⟩
    have e : (u64s l ++ cur.toList.drop (56 * 1)).toArray = cur := by
      rw [← ht, List.take_append_drop]
    show w.heap[nb]? = some (.cells (u64s l ++ cur.toList.drop (56 * 1)).toArray 27)
    rw [e]; exact hg
/-- What the law has changed since its rounds began: its device, and its cUndo. -/
structure Keep (W9 : World) (F1 : Dev.Own) (ub : Nat) (F' : Dev.Own) (wr : World) : Prop where
  x : Ext W9 F1 F'
  y : Only (fun k => Mine F1 0 k ∨ k = ub) W9 wr
theorem Keep.below {W9 wr wr2 : World} {F1 F' : Dev.Own} {ub : Nat} (h : Keep W9 F1 ub F' wr) (hb : Below W9.heap.size wr wr2) : Keep W9 F1 ub F' wr2 :=
  ⟨h.x, h.y.trans' (Only.of_below hb) (fun k hk e => absurd hk (by omega))⟩
theorem Keep.dstep {W9 wr wr2 : World} {F1 F' F2 : Dev.Own} {ub : Nat} (h : Keep W9 F1 ub F' wr) (hs : Dstep wr F' 0 wr2 F2) : Keep W9 F1 ub F2 wr2 :=
  ⟨h.x.trans hs.ext h.y.size, h.y.trans' hs.only (fun k hk ⟨r, e⟩ => .inl ⟨r, by rw [← h.x k hk]; exact e⟩)⟩
theorem Keep.ub {W9 wr wr2 : World} {F1 F' : Dev.Own} {ub : Nat} (h : Keep W9 F1 ub F' wr) (ho : Only (fun k => k = ub) wr wr2) : Keep W9 F1 ub F' wr2 :=
  ⟨h.x, h.y.trans' ho (fun k hk e => .inr e)⟩
/-- Between the rounds: nothing is saved, the device and the law hold f. -/
structure OutI (W9 : World) (F1 : Dev.Own) (L : Lay) (ub lb : Nat) (f : Nat → Nat) (T : Nat) (R : Dv) (F' : Dev.Own) (ob oc : Nat) (nv : Value) (wr : World) : Prop where
  d : DevSt wr F' 0 L T R
  k : Keep W9 F1 ub F' wr
  u : Has wr ub [.pointer (some ⟨L.g, 0, none⟩), .pointer (some ⟨lb, 0, none⟩), .slice (some ⟨ob, 0, none⟩) 56 oc, nv] 72
  ro : NewR wr ob (wordsF f)
  bo : lb < ob ∧ ub < ob
  fo : F' ob = none
  un : Und R f [] 0 [0]
  z : notes0 R = []
  o : Ok10 R
  v : ∀ o, o % 8 = 0 → 192 ≤ o → o < 640 → valueP R o = f o
/-- Within a round: f0 is the old row, u0 what the log restores, g the new row, f what the device holds. -/
structure MidI (W9 : World) (F1 : Dev.Own) (L : Lay) (ub lb : Nat) (f0 u0 g f : Nat → Nat) (E : List (Nat × Nat)) (T : Nat) (R : Dv) (F' : Dev.Own) (ob oc nb nc : Nat) (wr : World) : Prop where
  d : DevSt wr F' 0 L T R
  k : Keep W9 F1 ub F' wr
  u : Has wr ub [.pointer (some ⟨L.g, 0, none⟩), .pointer (some ⟨lb, 0, none⟩), .slice (some ⟨ob, 0, none⟩) 56 oc, .slice (some ⟨nb, 0, none⟩) 56 nc] 72
  ro : NewR wr ob (wordsF f0)
  rn : NewR wr nb (wordsF g)
  bo : lb < ob ∧ ub < ob ∧ ob < nb ∧ W9.heap.size ≤ nb
  fo : F' ob = none
  fn : F' nb = none
  un : Und R u0 E E.length [E.length]
  z : notes0 R = []
  o : Ok10 R
  v : ∀ o, o % 8 = 0 → 192 ≤ o → o < 640 → valueP R o = f o
section
variable {W9 wr wr2 : World} {F1 F' : Dev.Own} {L : Lay} {ub lb : Nat} {f0 u0 g f : Nat → Nat} {E : List (Nat × Nat)} {T : Nat} {R : Dv} {ob oc nb nc : Nat} {nv : Value}
theorem Keep.log (h : Keep W9 F1 ub F' wr) (hg : LogAt W9 lb (L.tb 0)) (hF : F1 lb = none) (hne : lb ≠ ub) : LogAt wr lb (L.tb 0) ∧ F' lb = none :=
  ⟨Has.only hg h.y (fun e => by
    rcases e with ⟨r, e⟩ | e
    · rw [hF] at e; cases e
    · exact hne e), (h.x lb (Has.lt hg)).trans hF⟩
theorem Keep.ubF (h : Keep W9 F1 ub F' wr) (hlt : ub < W9.heap.size) (hF : F1 ub = none) : F' ub = none := (h.x ub hlt).trans hF
theorem MidI.at (h : MidI W9 F1 L ub lb f0 u0 g f E T R F' ob oc nb nc wr) (hg : LogAt W9 lb (L.tb 0)) (hF : F1 lb = none) (hne : lb ≠ ub) (hlt : ub < W9.heap.size) (hFu : F1 ub = none) :
    UAt wr F' L ub lb (wordsF f0) (wordsF g) (some ⟨ob, 0, none⟩) (some ⟨nb, 0, none⟩) oc nc :=
  ⟨h.u, h.k.ubF hlt hFu, wordsF_len _, wordsF_len _, h.ro.rd (wordsF_len _), fun k hk => (by cases hk; exact h.fo), h.rn.rd (wordsF_len _), fun k hk => (by cases hk; exact h.fn), (h.k.log hg hF hne).1, (h.k.log hg hF hne).2⟩
theorem MidI.below (h : MidI W9 F1 L ub lb f0 u0 g f E T R F' ob oc nb nc wr) (hb : Below wr.heap.size wr wr2) : MidI W9 F1 L ub lb f0 u0 g f E T R F' ob oc nb nc wr2 :=
  ⟨h.d.below hb, h.k.below (hb.mono h.k.y.size), Has.only h.u (Only.of_below hb) (Nat.not_le.2 h.u.lt), h.ro.only (Only.of_below hb) (Nat.not_le.2 h.ro.lt), h.rn.only (Only.of_below hb) (Nat.not_le.2 h.rn.lt), h.bo, h.fo, h.fn, h.un, h.z, h.o, h.v⟩
theorem OutI.below (h : OutI W9 F1 L ub lb f T R F' ob oc nv wr) (hb : Below wr.heap.size wr wr2) : OutI W9 F1 L ub lb f T R F' ob oc nv wr2 :=
  ⟨h.d.below hb, h.k.below (hb.mono h.k.y.size), Has.only h.u (Only.of_below hb) (Nat.not_le.2 h.u.lt), h.ro.only (Only.of_below hb) (Nat.not_le.2 h.ro.lt), h.bo, h.fo, h.un, h.z, h.o, h.v⟩
/-- Behind a run of a program. -/
theorem MidI.run {T2 : Nat} {R2 : Dv} {F2 : Dev.Own} {E2 : List (Nat × Nat)} {u2 f2 : Nat → Nat} (h : MidI W9 F1 L ub lb f0 u0 g f E T R F' ob oc nb nc wr) (hFu : F' ub = none) (hs : Dstep wr F' 0 wr2 F2) (hd : DevSt wr2 F2 0 L T2 R2)
    (hun : Und R2 u2 E2 E2.length [E2.length]) (hz : notes0 R2 = []) (ho : Ok10 R2) (hv : ∀ o, o % 8 = 0 → 192 ≤ o → o < 640 → valueP R2 o = f2 o) : MidI W9 F1 L ub lb f0 u2 g f2 E2 T2 R2 F2 ob oc nb nc wr2 :=
  ⟨hd, h.k.dstep hs, Has.only h.u hs.only (fun ⟨r, e⟩ => by rw [hFu] at e; cases e), h.ro.only hs.only (fun ⟨r, e⟩ => by rw [h.fo] at e; cases e), h.rn.only hs.only (fun ⟨r, e⟩ => by rw [h.fn] at e; cases e), h.bo, (hs.ext ob h.ro.lt).trans h.fo, (hs.ext nb h.rn.lt).trans h.fn, hun, hz, ho, hv⟩
end
theorem new10 : Und (newP 10) (fun _ => 0) [] 0 [0] ∧ notes0 (newP 10) = [] ∧ Ok10 (newP 10) ∧ ∀ o, o < 640 → valueP (newP 10) o = 0 := by
  have hl : (newP 10).lines.length = 10 := by show (List.replicate 10 _).length = 10; simp
  have hline : ∀ i, i < 10 → (newP 10).line i = ⟨List.replicate 8 0, [], 0⟩ := fun i hi => by
    unfold Dv.line
    refine getD_of _ ?_
    show (List.replicate 10 _)[i]? = _
    rw [List.getElem?_replicate_of_lt hi]
  have hv : ∀ o, o < 640 → valueP (newP 10) o = 0 := fun o ho => by
    unfold valueP
    rw [hline _ (by omega)]
    unfold allL wordsL
    simp only [List.length_nil, List.take_nil, List.foldl_nil]
    rw [List.getD, List.getElem?_replicate_of_lt (by omega)]; rfl
  have hin : ∀ o, o < 640 → InV (newP 10) o [0] := fun o ho => by
    intro k hk
    rw [hline _ (by omega)] at hk ⊢
    have : k = 0 := by simpa using hk
    subst this
    unfold wordsL
    simp only [List.take_nil, List.foldl_nil]
    rw [List.getD, List.getElem?_replicate_of_lt (by omega)]; simp
  have hlv : Live (newP 10) := ⟨rfl, rfl, by show 0 < (List.replicate 8 ([] : List (Nat × Nat))).length; simp, fun i hi => by rw [hl] at hi; rw [hline i hi]; simp⟩
  exact ⟨⟨hlv, hl, hin 0 (by omega), fun c hc => by rw [List.mem_singleton.1 hc]; exact ⟨Nat.le_refl _, Nat.zero_le _⟩, Nat.zero_le _, fun i e he => (by cases he), fun e he => (by cases he), fun o _ _ h3 _ => hin o h3⟩, rfl, ⟨hlv, hl, rfl⟩, hv⟩
end Go.Proofs.Ytjmdibgncaljaaa
