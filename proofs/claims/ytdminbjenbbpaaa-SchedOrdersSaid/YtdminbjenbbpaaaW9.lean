/- The walk of SchedOrders. -/
import Derived.Test.YtdminbjenbbpaaaW10
import Derived.Test.YtdminbjenbbpaaaT1
import Derived.Test.YtdminbjenbbpaaaT4
import Derived.Test.YtdminbjenbbpaaaS11
namespace Go.Proofs.Ytdminbjenbbpaaa
open Go.RowKit
attribute [local go_sem] Oper.semAt_some
def ord1 (z : Int) : Int := z % 4
theorem and3 (q : Int) (h : -128 ≤ q ∧ q ≤ 127) : bits BinOp.and IntKind.i64 q 3 = q % 4 := by
  have key : ∀ i : Fin 256, bits BinOp.and IntKind.i64 ((i.val : Int) - 128) 3 = ((i.val : Int) - 128) % 4 := by decide +kernel
  have := key ⟨(q + 128).toNat, by omega⟩
  have e : (((q + 128).toNat : Nat) : Int) - 128 = q := by omega
  simp only [e] at this
  exact this
theorem Roll.has {D : Nat} {c : Nat → Prop} {A C : World} (h : Roll D c A C) {b : Nat} {cs : List Value} {T : TypeId} (hc : ¬ c b) (hh : Has A b cs T) : Has C b cs T := h.2.1 b _ hh hc (.inr rfl)
theorem Roll.rowAt {D : Nat} {c : Nat → Prop} {A C : World} (h : Roll D c A C) {b : Nat} {L : List Nat} (hc : ¬ c b) (hr : RowAt A b L) : RowAt C b L := fun j hj =>
  ⟨h.cell hc (hr j hj).1, h.frozen hc (hr j hj).1 (hr j hj).2⟩
theorem WantAt.roll {D : Nat} {c : Nat → Prop} {A C : World} (h : Roll D c A C) {L : List Nat} {v : Value} (hc : ∀ k, v.ownBlock = some k → ¬ c k) (hw : WantAt A L v) : WantAt C L v := by
  rcases hw with hw | ⟨hne, g, cp, rfl, hl, hr⟩
  · exact .inl hw
  · exact .inr ⟨hne, g, cp, rfl, hl, h.rowAt (hc g rfl) hr⟩
theorem WantAt.only {S : Nat → Prop} {A C : World} (h : Only S A C) {L : List Nat} {v : Value} (hc : ∀ k, v.ownBlock = some k → ¬ S k) (hw : WantAt A L v) : WantAt C L v := by
  rcases hw with hw | ⟨hne, g, cp, rfl, hl, hr⟩
  · exact .inl hw
  · exact .inr ⟨hne, g, cp, rfl, hl, hr.kept (h.block g (World.block_lt_of_cell? _ _ (hr 0 (List.length_pos_iff.2 hne)).1) (hc g rfl))⟩
theorem WantAt.rd {A : World} {L : List Nat} {v : Value} (hw : WantAt A L v) : Rd A v L.length (intsN L) := by
  rcases hw with ⟨rfl, a, cp, rfl⟩ | ⟨hne, g, cp, rfl, hl, hr⟩
  · exact ⟨a, cp, rfl, .inl ⟨rfl, rfl⟩⟩
  · exact PicksAt.rd (D := 0) (c := fun k => k = g) (.inr ⟨g, rfl, hr, hl, Nat.zero_le _, World.block_lt_of_cell? _ _ (hr 0 (List.length_pos_iff.2 hne)).1, fun _ => Iff.rfl⟩)
/-- A row of ints that may be written. -/
def Wr (A : World) (v : Value) : Prop :=
  ∃ a m cp, v = .slice a m cp ∧ m ≤ 4096 ∧ (m = 0 ∨ ∃ g, a = some ⟨g, 0, none⟩ ∧ ∀ j, j < m → (∃ z, A.cell? ⟨g, j, none⟩ = some (.int .i64 z)) ∧ A.frozen? ⟨g, j, none⟩ = false)
theorem Wr.roll {D : Nat} {c : Nat → Prop} {A C : World} (h : Roll D c A C) {v : Value} (hc : ∀ k, v.ownBlock = some k → ¬ c k) (hw : Wr A v) : Wr C v := by
  obtain ⟨a, m, cp, rfl, hm, hw⟩ := hw
  refine ⟨a, m, cp, rfl, hm, ?_⟩
  rcases hw with hw | ⟨g, rfl, hw⟩
  · exact .inl hw
  · exact .inr ⟨g, rfl, fun j hj => by
      obtain ⟨⟨z, h1⟩, h2⟩ := hw j hj
      exact ⟨⟨z, h.cell (hc g rfl) h1⟩, h.frozen (hc g rfl) h1 h2⟩⟩
theorem Wr.of_below {A C : World} (h : Below A.heap.size A C) {v : Value} (hw : Wr A v) : Wr C v := by
  obtain ⟨a, m, cp, rfl, hm, hw⟩ := hw
  refine ⟨a, m, cp, rfl, hm, ?_⟩
  rcases hw with hw | ⟨g, rfl, hw⟩
  · exact .inl hw
  · exact .inr ⟨g, rfl, fun j hj => by
      obtain ⟨⟨z, h1⟩, h2⟩ := hw j hj
      have hb := h.block g (World.block_lt_of_cell? _ _ h1)
      exact ⟨⟨z, (World.cell?_of_block hb).trans h1⟩, (World.frozen?_of_block hb).trans h2⟩⟩
theorem Wr.setInt {A : World} {v : Value} (hw : Wr A v) (a : Addr) (z : Int) : Wr (A.setCell a (.int .i64 z)) v := by
  obtain ⟨b, m, cp, rfl, hm, hw⟩ := hw
  refine ⟨b, m, cp, rfl, hm, ?_⟩
  rcases hw with hw | ⟨g, rfl, hw⟩
  · exact .inl hw
  · exact .inr ⟨g, rfl, fun j hj => by
      obtain ⟨⟨y, h1⟩, h2⟩ := hw j hj
      refine ⟨?_, by rw [World.frozen?_setCell]; exact h2⟩
      by_cases e : a = ⟨g, j, none⟩
      · subst e; exact ⟨z, World.cell?_setCell_same _ _ _ h1⟩
      · exact ⟨y, by rw [World.cell?_setCell_other _ _ _ _ e]; exact h1⟩⟩
theorem Wr.set_ne {A : World} {v : Value} (hw : Wr A v) (a : Addr) (u : Value) (hn : v.ownBlock ≠ some a.block) : Wr (A.setCell a u) v := by
  obtain ⟨b, m, cp, rfl, hm, hw⟩ := hw
  refine ⟨b, m, cp, rfl, hm, ?_⟩
  rcases hw with hw | ⟨g, rfl, hw⟩
  · exact .inl hw
  · exact .inr ⟨g, rfl, fun j hj => by
      obtain ⟨⟨y, h1⟩, h2⟩ := hw j hj
      refine ⟨⟨y, ?_⟩, by rw [World.frozen?_setCell]; exact h2⟩
      rw [World.cell?_setCell_other _ _ _ _ (by intro e; subst e; exact hn rfl)]; exact h1⟩
theorem Wr.of_own {A : World} {B : Nat} {v : Value} {L : List Nat} (h : A.ownsRow B 3 1 v L.length (intsN L)) (hl : L.length ≤ 4096) : Wr A v := by
  obtain ⟨h1, h2⟩ := h
  rcases h2 with ⟨rfl, h0⟩ | ⟨g, cap', cur, rfl, _, hh, hle, _, hz, ht⟩
  · exact ⟨none, 0, 0, rfl, by omega, .inl rfl⟩
  · refine ⟨_, _, _, rfl, hl, .inr ⟨g, rfl, fun j hj => ⟨?_, ?_⟩⟩⟩
    · have hj2 := intsN_get L j hj
      rw [← ht, List.getElem?_take] at hj2
      split at hj2
      · exact ⟨_, by simp only [World.cell?, hh]; simpa using hj2⟩
      · cases hj2
    · simp only [World.frozen?, hh]; simp
theorem KeepsFrom.of_below {D n : Nat} {A C : World} (h : Below n A C) (hn : A.heap.size ≤ n) : KeepsFrom D A C := ⟨h.size, fun k o _ ho _ => (h.block k (by have := (Array.getElem?_eq_some_iff.1 ho).1; omega)).trans ho⟩
/-- What the law's variable want holds when pre has come. -/
def WantI (L0 : List Nat) (pre : List (Value × List Nat)) (w : World) (v : Value) : Prop :=
  match pre.getLast? with
  | none => WantAt w L0 v
  | some q => (nextO q.2 = none ∧ v = .slice none 0 0) ∨ ∃ T, nextO q.2 = some T ∧ T ≠ [] ∧ WantAt w T v
theorem WantI.roll {D : Nat} {c : Nat → Prop} {A C : World} (h : Roll D c A C) {L0 : List Nat} {pre : List (Value × List Nat)} {v : Value} (hc : ∀ k, v.ownBlock = some k → ¬ c k) (hw : WantI L0 pre A v) : WantI L0 pre C v := by
  unfold WantI at hw ⊢
  cases hp : pre.getLast? with
  | none => rw [hp] at hw; exact WantAt.roll h hc hw
  | some q =>
    rw [hp] at hw
    rcases hw with hw | ⟨T, h1, h2, h3⟩
    · exact .inl hw
    · exact .inr ⟨T, h1, h2, WantAt.roll h hc h3⟩
theorem WantI.now {A : World} {L0 L : List Nat} {pre : List (Value × List Nat)} {v : Value} (hw : WantI L0 pre A v) (hn : NextIs L0 pre L) : WantAt A L v ∧ (pre ≠ [] → L ≠ []) := by
  unfold WantI at hw
  unfold NextIs at hn
  cases hp : pre.getLast? with
  | none =>
    rw [hp] at hw hn
    exact ⟨by rw [show L = L0 from hn]; exact hw, fun h => absurd (List.getLast?_eq_none_iff.1 hp) h⟩
  | some q =>
    rw [hp] at hw hn
    rcases hw with ⟨h1, _⟩ | ⟨T, h1, h2, h3⟩
    · rw [show nextO q.2 = some L from hn] at h1; cases h1
    · rw [show nextO q.2 = some L from hn] at h1; cases h1
      exact ⟨h3, fun _ => h2⟩
/-- The law's boxes, and what they hold. -/
def OrdBox (br bm bw bs bl : Nat) (M n : Nat) (vw vl : Value) (A : World) : Prop :=
  Has A br [.bool false] 4 ∧ Has A bm [.int .i64 (M : Int)] 3 ∧ Has A bw [vw] 23 ∧ Has A bs [.int .i64 (n : Int)] 3 ∧ Has A bl [vl] 23
def OrdI (W0 : World) (br bm bw bs bl M D : Nat) (L0 : List Nat) (c : Nat → Prop) (pre : List (Value × List Nat)) (A : World) : Prop :=
  ∃ vw vl, OrdBox br bm bw bs bl M pre.length vw vl A ∧ WantI L0 pre A vw ∧ Wr A vl ∧ (∀ k, vw.ownBlock = some k → ¬ c k ∧ k ≠ br ∧ k ≠ bm ∧ k ≠ bw ∧ k ≠ bs ∧ k ≠ bl ∧ vl.ownBlock ≠ some k) ∧
    (∀ k, vl.ownBlock = some k → ¬ c k ∧ D ≤ k) ∧ Below W0.heap.size W0 A
/-- The law's state behind a round: A2 behind the loop over last, A4 behind ref Next. -/
theorem ord_step {W0 : World} {br bm bw bs bl M D bL : Nat} {L0 : List Nat} {c : Nat → Prop} {pre : List (Value × List Nat)} {A A1 A2 A3 A4 : World} {x1 : Value} {L : List Nat} {vw vl v' : Value}
    (hbd : br < D ∧ bm < D ∧ bw < D ∧ bs < D ∧ bl < D ∧ bL < D) (hne : br ≠ bm ∧ br ≠ bw ∧ br ≠ bs ∧ br ≠ bl ∧ bm ≠ bw ∧ bm ≠ bs ∧ bm ≠ bl ∧ bw ≠ bs ∧ bw ≠ bl ∧ bs ≠ bl ∧ bL ≠ bw ∧ bL ≠ bs ∧ bL ≠ bl)
    (hW0 : W0.heap.size ≤ bw ∧ W0.heap.size ≤ bs ∧ W0.heap.size ≤ bl ∧ W0.heap.size ≤ D)
    (hc : ∀ k, c k → D ≤ k) (hb : OrdBox br bm bw bs bl M pre.length vw vl A) (hB : Below W0.heap.size W0 A)
    (hg : NextIs L0 pre L ∧ L.length ≤ 4096 ∧ ∃ B, D ≤ B ∧ B ≤ A.heap.size ∧ (∀ k, c k → k < B) ∧ A.ownsRow B 3 1 x1 L.length (intsN L))
    (d2 : ∀ k, vl.ownBlock = some k → ¬ c k ∧ D ≤ k)
    (h1 : A1.heap = A.heap) (hK1 : KeepsOthers A A1) (hB1 : Below W0.heap.size W0 A1)
    (hkf : KeepsFrom D A1 A2) (hkeep : ∀ k, k < D ∨ c k ∨ vl.ownBlock ≠ some k → A2.heap[k]? = A1.heap[k]?) (ho : A2.os = A1.os ∧ A2.tape = A1.tape ∧ A2.output = A1.output) (hwx : Wr A2 x1)
    (e3 : A3 = (A2.setCell ⟨bl, 0, none⟩ x1).setCell ⟨bs, 0, none⟩ (.int .i64 ((pre.length + 1 : Nat) : Int)))
    (h4 : (nextO L = none ∧ v' = .slice none 0 0 ∧ Below A3.heap.size A3 A4) ∨ ∃ T, nextO L = some T ∧ T ≠ [] ∧ RNext A3 T (.returned v') A4) :
    KeepsFrom D A (A4.setCell ⟨bw, 0, none⟩ v') ∧ KeepB (fun k => c k ∨ k = bL) A (A4.setCell ⟨bw, 0, none⟩ v') ∧ OrdI W0 br bm bw bs bl M D L0 c (pre ++ [(x1, L)]) (A4.setCell ⟨bw, 0, none⟩ v') := by
  obtain ⟨hb1, hb2, hb3, hb4, hb5, hb6⟩ := hbd
  obtain ⟨n1, n2, n3, n4, n5, n6, n7, n8, n9, n10, n11, n12, n13⟩ := hne
  obtain ⟨p1, p2, p3, p4⟩ := hW0
  obtain ⟨x1b, x2b, x3b, x4b, x5b⟩ := hb
  obtain ⟨_, hxl, B, hDB, hBA, hcB, hown⟩ := hg
  have hB4 : Below A3.heap.size A3 A4 := by
    rcases h4 with ⟨_, _, h⟩ | ⟨T, _, _, g, cp, _, _, h, _⟩
    · exact h
    · exact h
  have hAA2 : A.heap.size ≤ A2.heap.size := by rw [← h1]; exact hkf.size
  have hs3 : A3.heap.size = A2.heap.size := by rw [e3]; simp
  have low : ∀ k, k < D → A2.heap[k]? = A.heap[k]? := fun k hk => by rw [hkeep k (.inl hk), h1]
  have has2 : ∀ {b : Nat} {cs : List Value} {T : TypeId}, b < D → Has A b cs T → Has A2 b cs T := fun hb h => (low _ hb).trans h
  have y1 := has2 hb1 x1b
  have y2 := has2 hb2 x2b
  have y3 := has2 hb3 x3b
  have y4 := has2 hb4 x4b
  have y5 := has2 hb5 x5b
  have up : ∀ {b : Nat} {cs : List Value} {T : TypeId}, Has A3 b cs T → Has A4 b cs T := fun h => h.only (Only.of_below hB4) (by have := h.lt; omega)
  have z1 : Has A3 br [.bool false] 4 := by rw [e3]; exact (y1.set_ne (by simpa using n4) _).set_ne (by simpa using n3) _
  have z2 : Has A3 bm [.int .i64 (M : Int)] 3 := by rw [e3]; exact (y2.set_ne (by simpa using n7) _).set_ne (by simpa using n6) _
  have z3 : Has A3 bw [vw] 23 := by rw [e3]; exact (y3.set_ne (by simpa using n9) _).set_ne (by simpa using n8) _
  have z4 : Has A3 bs [.int .i64 ((pre.length + 1 : Nat) : Int)] 3 := by rw [e3]; exact (y4.set_ne (by simpa using n10) _).set 0 _
  have z5 : Has A3 bl [x1] 23 := by rw [e3]; exact (y5.set 0 _).set_ne (by simpa using n10.symm) _
  have hxb : ∀ k, x1.ownBlock = some k → B ≤ k ∧ k < A.heap.size := fun k hk => hown.lt k hk
  have hB2 : Below W0.heap.size W0 A2 := ⟨ho.1.trans hB1.os, ho.2.1.trans hB1.tape, ho.2.2.trans hB1.output, Nat.le_trans hB1.size hkf.size, fun k hk => (hkeep k (.inl (by omega))).trans (hB1.block k hk)⟩
  have hB3 : Below W0.heap.size W0 A3 := by rw [e3]; exact (hB2.setCell (p := ⟨bl, 0, none⟩) p3 _).setCell (p := ⟨bs, 0, none⟩) p2 _
  have hB5 : Below W0.heap.size W0 (A4.setCell ⟨bw, 0, none⟩ v') := (hB3.trans (hB4.mono hB3.size)).setCell (p := ⟨bw, 0, none⟩) p1 _
  refine ⟨?_, ?_, v', x1, ⟨?_, ?_, ?_, ?_, ?_⟩, ?_, ?_, ?_, ?_, hB5⟩
  · refine ((hK1.from D).trans hkf).trans (KeepsFrom.trans ?_ ((KeepsFrom.of_below hB4 (Nat.le_refl _)).trans ((KeepsOthers.setCell _ _ _).from _)))
    rw [e3]; exact ((KeepsOthers.setCell _ _ _).from _).trans ((KeepsOthers.setCell _ _ _).from _)
  · have k2 : KeepB (fun k => c k ∨ k = bL) A A2 := ⟨hAA2, fun k o hk ho => by
      rw [hkeep k (by rcases hk with h | h
                      · exact .inr (.inl h)
                      · exact .inl (by omega)), h1]; exact ho⟩
    have hn : ∀ b, b < D → b ≠ bL → ¬ (c b ∨ b = bL) := fun b h1 h2 h => by
      rcases h with h | h
      · have := hc b h; omega
      · exact h2 h
    have k3 : KeepB (fun k => c k ∨ k = bL) A A3 := by
      rw [e3]; exact (k2.setCell _ (hn bl hb5 (Ne.symm n13))).setCell _ (hn bs hb4 (Ne.symm n12))
    exact (k3.trans (KeepB.of_below hB4 (Nat.le_refl _))).setCell _ (hn bw hb3 (Ne.symm n11))
  · exact (up z1).set_ne (by simpa using n2) _
  · exact (up z2).set_ne (by simpa using n5) _
  · exact (up z3).set 0 _
  · rw [List.length_append, List.length_singleton]; exact (up z4).set_ne (by simpa using n8.symm) _
  · exact (up z5).set_ne (by simpa using n9.symm) _
  · unfold WantI
    rw [List.getLast?_concat]
    rcases h4 with ⟨g1, g2, _⟩ | ⟨T, g1, g2, g, cp, g3, g4, _, g5⟩
    · exact .inl ⟨g1, g2⟩
    · refine .inr ⟨T, g1, g2, ?_⟩
      cases g3
      obtain ⟨b, hb, hc', hr⟩ := RowAt.of_own g2 g4
      cases hb
      refine .inr ⟨g2, g, cp, rfl, hc', hr.kept (heap_setCell_ne (a := ⟨bw, 0, none⟩) ?_)⟩
      show g ≠ bw
      omega
  · have h : Wr A3 x1 := by
      rw [e3]
      exact (hwx.set_ne _ _ (fun e => by have := hxb _ e; simp at this; omega)).set_ne _ _ (fun e => by have := hxb _ e; simp at this; omega)
    exact (h.of_below hB4).set_ne _ _ (fun e => by have := hxb _ e; simp at this; omega)
  · intro k hk
    rcases h4 with ⟨_, rfl, _⟩ | ⟨T, _, _, g, cp, g3, g4, _, g5⟩
    · cases hk
    · cases g3
      have e : g = k := by simpa [Value.ownBlock] using hk
      subst e
      refine ⟨fun h => by have := hcB g h; omega, by omega, by omega, by omega, by omega, by omega, fun e => by have := hxb _ e; omega⟩
  · intro k hk
    have := hxb k hk
    exact ⟨fun h => by have := hcB k h; omega, by omega⟩
set_option maxHeartbeats 4000000 in
set_option maxRecDepth 100000 in
theorem orders_short (a0 : Option Addr) (cap0 : Nat) (zs : List Int) (lim : Int) (W : World) (hv : Rd W (.slice a0 zs.length cap0) zs.length (zs.map (.int .i8)))
    (hz : ∀ z ∈ zs, -128 ≤ z ∧ z ≤ 127) (hn : zs.length ≤ 9223372036854775807) :
    Calls Try.prog 9 #[.slice a0 zs.length cap0, .int .i64 lim] W fun e w' => e = .returned (.bool true) ∧ Below W.heap.size W w' := by
  generalize hpost : (fun (e : Ending) w' => e = .returned (.bool true) ∧ Below W.heap.size W w') = post
  replace hpost := Lib.hid hpost
  refine calls_of_marks Try.func9 rfl ?_
  simp only [Try.ntmps9, List.size_toArray, List.length_cons, List.length_nil, Nat.reduceAdd, Nat.reduceSub, Array.replicate_succ, Array.replicate_zero, List.push_toArray, List.append_toArray, List.nil_append, List.cons_append]
  have hB0 : Below W.heap.size W (W.alloc (.cells #[.bool false] 4)) := (Below.refl _ _).alloc (Nat.le_refl _) _
  have hR0 := Has.new W [.bool false] 4
  have hv0 := hv.kept hB0
  replace hv0 := Lib.hid hv0
  replace hB0 := Lib.hid hB0
  replace hR0 := Lib.hid hR0
  clear hv
  go_wp2_with fail
  refine (awake_any _).mono ?_
  rintro e w1 ⟨rfl, b1⟩
  have hv1 := hv0.out.kept b1
  have hR1 : Has w1 W.heap.size [.bool false] 4 := hR0.out.only (Only.of_below b1) (by simp)
  have b1W : Below W.heap.size W w1 := hB0.out.trans (b1.mono hB0.out.size)
  have hRs : W.heap.size < w1.heap.size := hR1.lt
  replace hR1 := Lib.hid hR1
  clear hv0 hB0 hR0 b1
  obtain ⟨a', vc', hv0, hvc⟩ := hv1
  simp only [Value.slice.injEq, true_and] at hv0
  obtain ⟨rfl, rfl⟩ := hv0
  go_wp2_with fail
  go_loopw [5, 6] (fun v i wr => ∃ (k : Nat) (sa : Option Addr) (cap : Nat), k ≤ zs.length ∧ k ≤ 4 ∧ i = .int .i64 k ∧ v = .slice sa k cap ∧ wr.ownsRow 0 3 1 (.slice sa k cap) k (((zs.take k).map ord1).map (.int .i64)) ∧
      Below w1.heap.size w1 wr ∧ (∀ k', Value.ownBlock (.slice sa k cap) = some k' → w1.heap.size ≤ k'))
    (fun _ i _ => 4 - (intOf i).toNat)
  case atStart => exact ⟨0, none, 0, Nat.zero_le _, by omega, rfl, rfl, World.ownsRow_nil _ _ _ _, Below.refl _ _, by simp [Value.ownBlock]⟩
  case round =>
    obtain ⟨k, sa, cap, hk, hk6, rfl, rfl, hown, hB, hob⟩ := hrel
    by_cases hlt : k < zs.length ∧ k < 4
    · obtain ⟨hlt, hlt6⟩ := hlt
      rcases hvc with ⟨hz, _⟩ | ⟨b, off, rfl, hvc⟩
      · omega
      have hc0 := hvc k _ (ints_get zs .i8 k hlt)
      have hc := (hB.cell (p := ⟨b, off + k, none⟩) (by simpa using World.block_lt_of_cell? _ _ hc0)).trans hc0
      clear hc0
      have hsz := hB.size
      have hq1 := hz (zs.getD k 0) (by rw [List.getD, List.getElem?_eq_getElem hlt]; exact List.getElem_mem _)
      generalize hq : zs.getD k 0 = q at *
      have Hq := Lib.hid hq
      clear hq
      have hbits : bits BinOp.and IntKind.i64 q 3 = ord1 q := and3 q hq1
      have hcb : 0 ≤ ord1 q ∧ ord1 q ≤ 3 := by unfold ord1; omega
      have hk4 : decide ((k : Int) < 4) = true := decide_eq_true (by omega)
      obtain ⟨c, hcc⟩ : ∃ c, c = ord1 q := ⟨_, rfl⟩
      rw [← hcc] at hbits hcb
      replace hcc := Lib.hid hcc
      go_wp2_with (at_builtin; refine wpList_app1 rfl (.tmp 25) (.tmp 32) 23 rfl 3 (.int .i64 0) 8 Try.underlying23 info3 rfl (by decide) sa k cap (((zs.take k).map ord1).map (.int .i64)) rfl (.int .i64 c) _ wr rfl rfl hown _ rfl rfl rfl (by omega) ?_)
      intro sa' cap' w2 own2 only2 fresh2
      go_wp2_with fail
      go_roundw
      case rel =>
        refine ⟨k + 1, sa', cap', by omega, by omega, by go_num, rfl, ?_, hB.trans (only2.below (B := w1.heap.size) hsz (fun b _ hb => hob b hb)), ?_⟩
        · rw [take_getD zs k 0 hlt, Hq.out]; rw [hcc.out] at own2; simpa using own2
        · intro b hb
          rcases fresh2 b hb with h1 | h1
          · exact hob b h1
          · omega
      case measure => simp [intOf]; omega
    · have htk : zs.take k = zs.take 4 := by
        by_cases h6 : k = 4
        · rw [h6]
        · rw [List.take_of_length_le (by omega), List.take_of_length_le (by omega)]
      have hlen : ((zs.take 4).map ord1).length = k := by simp; omega
      rw [htk] at hown
      have hbd : ∀ s ∈ (zs.take 4).map ord1, 0 ≤ s ∧ s ≤ 3 := by
        intro s hs
        obtain ⟨z, _, rfl⟩ := List.mem_map.1 hs
        unfold ord1; omega
      have hl4 : ((zs.take 4).map ord1).length ≤ 4 := by omega
      have B1 := b1W.trans (hB.mono b1W.size)
      have hend : decide ((k : Int) < (zs.length : Int)) = false ∨ (decide ((k : Int) < (zs.length : Int)) = true ∧ decide ((k : Int) < 4) = false) := by
        by_cases h6 : k < zs.length
        · exact .inr ⟨decide_eq_true (by omega), decide_eq_false (by omega)⟩
        · exact .inl (decide_eq_false (by omega))
      generalize (zs.take 4).map ord1 = ns at *
      obtain rfl := hlen
      have hR2 : Has wr W.heap.size [.bool false] 4 := hR1.out.only (Only.of_below hB) (by omega)
      clear hvc htk b1W hR1
      have hRn := Rd.of_own hown
      have hnlt : ∀ k, Value.ownBlock (.slice sa ns.length cap) = some k → k < wr.heap.size := fun k hk => ownsRow_lt hown hk
      obtain ⟨w2, hw2⟩ : ∃ w2, w2 = wr := ⟨_, rfl⟩
      rw [← hw2] at hRn hnlt B1 hR2
      have hWw : W.heap.size < w2.heap.size := hR2.lt
      obtain ⟨a2, c2, hv2, hvn⟩ := id hRn
      simp only [Value.slice.injEq, true_and] at hv2
      obtain ⟨rfl, rfl⟩ := hv2
      obtain ⟨M, hM⟩ : ∃ M : Nat, (M : Int) = max 0 (min lim 300) := ⟨(max 0 (min lim 300)).toNat, by omega⟩
      have hM3 : M ≤ 300 := by omega
      have hm1 : (if (300 : Int) < lim then (300 : Int) else lim) = min lim 300 := by
        by_cases h : (300 : Int) < lim
        · rw [if_pos h]; omega
        · rw [if_neg h]; omega
      have B3 := B1.alloc B1.size (.cells #[.int .i64 (M : Int)] 3)
      have B3' : Below w2.heap.size w2 (w2.alloc (.cells #[.int .i64 (M : Int)] 3)) := (Below.refl _ _).alloc (Nat.le_refl _) _
      have hfst := reffirst_any ns (.slice sa ns.length cap) _ (hRn.kept B3') (by omega) (fun s hs => by have := hbd s hs; omega)
      have hHm := Has.new w2 [.int .i64 (M : Int)] 3
      replace hM := Lib.hid hM
      replace hfst := Lib.hid hfst
      replace hHm := Lib.hid hHm
      replace hRn := Lib.hid hRn
      replace hbd := Lib.hid hbd
      replace hR2 := Lib.hid hR2
      have hB1 := hB
      clear hob hown hB hB1 hvn
      subst hw2
      by_cases h6 : ns.length < zs.length
      all_goals
        go_wp2_with fail
        rw [← hM.out]
        refine (hfst.out).mono ?_
        rintro e w4 ⟨fa, fc, rfl, own4, B4, fr4⟩
        have hfl := firstL_bd ns hl4 (fun s hs => by have := hbd.out s hs; omega)
        have hfm := first_mem (sz ns) ns.length
        have B4' : Below w2.heap.size w2 w4 := B3'.trans (B4.mono B3'.size)
        have B4W : Below W.heap.size W w4 := B3.trans (B4.mono B3.size)
        have hs4 := B4.size
        simp only [World.size_alloc] at hs4
        have W0 : WantAt w4 (firstL (sz ns) ns.length) (.slice fa (firstL (sz ns) ns.length).length fc) := by
          by_cases hne : firstL (sz ns) ns.length = []
          · exact .inl ⟨hne, fa, fc, by rw [hne]; rfl⟩
          · obtain ⟨b, rfl, hc, hr⟩ := RowAt.of_own hne own4
            exact .inr ⟨hne, b, fc, rfl, hc, hr⟩
        have hwf : ∀ k, Value.ownBlock (.slice fa (firstL (sz ns) ns.length).length fc) = some k → w2.heap.size < k ∧ k < w4.heap.size := fun k hk => by
          have h1 := fr4 k hk; have h2 := ownsRow_lt own4 hk; simp only [World.size_alloc] at h1; omega
        have X0 := hRn.out.kept B4'
        have X1 : Has w4 w2.heap.size [.int .i64 (M : Int)] 3 := hHm.out.only (Only.of_below B4) (by simp)
        have X2 : Has w4 W.heap.size [.bool false] 4 := hR2.out.only (Only.of_below B4') (by have := hR2.out.lt; omega)
        clear hfst hHm B4 B3 B3' hR2
        generalize hL0 : firstL (sz ns) ns.length = L0 at *
        obtain ⟨w7, hw7⟩ : ∃ w7, w7 = ((w4.alloc (.cells #[.slice fa L0.length fc] 23)).alloc (.cells #[.int .i64 0] 3)).alloc (.cells #[.slice none 0 0] 23) := ⟨_, rfl⟩
        have O7 : Only (fun _ => False) w4 w7 := by rw [hw7]; exact (((Only.refl _ _).alloc _).alloc _).alloc _
        have hs7 : w7.heap.size = w4.heap.size + 3 := by rw [hw7]; simp
        have B7W : Below W.heap.size W w7 := B4W.trans (O7.below (B := W.heap.size) B4W.size (fun _ _ h => h.elim))
        have B7' : Below w2.heap.size w2 w7 := B4'.trans (O7.below (B := w2.heap.size) B4'.size (fun _ _ h => h.elim))
        have Y0 : WantAt w7 L0 (.slice fa L0.length fc) := W0.only O7 (fun _ _ h => h)
        have Y1 := X1.only O7 (fun h => h)
        have Y2 := X2.only O7 (fun h => h)
        have Y3 : Has w7 w4.heap.size [.slice fa L0.length fc] 23 := by rw [hw7]; exact ((Has.new w4 [.slice fa L0.length fc] 23).alloc _).alloc _
        have Y4 : Has w7 (w4.heap.size + 1) [.int .i64 ((0 : Nat) : Int)] 3 := by
          rw [hw7]; have := (Has.new (w4.alloc (.cells #[.slice fa L0.length fc] 23)) [.int .i64 ((0 : Nat) : Int)] 3).alloc (.cells #[.slice none 0 0] 23); simpa using this
        have Y5 : Has w7 (w4.heap.size + 1 + 1) [.slice none 0 0] 23 := by
          rw [hw7]; have := Has.new ((w4.alloc (.cells #[.slice fa L0.length fc] 23)).alloc (.cells #[.int .i64 0] 3)) [.slice none 0 0] 23; simpa using this
        have hint : Calls Try.prog 30 #[.slice sa ns.length cap, .int .i64 (M : Int)] (((w4.alloc (.cells #[.slice fa L0.length fc] 23)).alloc (.cells #[.int .i64 0] 3)).alloc (.cells #[.slice none 0 0] 23)) (InterPost w7 ns M) := by
          rw [← hw7]; exact inter_any ns (.slice sa ns.length cap) M w7 (hRn.out.kept B7') (by omega)
        have m7 : (((w4.alloc (.cells #[.slice fa L0.length fc] 23)).alloc (.cells #[.int .i64 0] 3)).alloc (.cells #[.slice none 0 0] 23)).cell? ⟨w2.heap.size, 0, none⟩ = some (.int .i64 (M : Int)) := by rw [← hw7]; exact Y1.cell rfl
        replace hint := Lib.hid hint
        replace B7W := Lib.hid B7W
        replace Y0 := Lib.hid Y0
        replace Y1 := Lib.hid Y1
        replace Y2 := Lib.hid Y2
        replace Y3 := Lib.hid Y3
        replace Y4 := Lib.hid Y4
        replace Y5 := Lib.hid Y5
        replace hwf := Lib.hid hwf
        replace hfm := Lib.hid hfm
        replace hL0 := Lib.hid hL0
        replace hw7 := Lib.hid hw7
        clear O7 B7' W0 X0 X1 X2 own4 fr4 B4' B4W
        go_wp2_with (refine (hint.out).mono ?_; rintro e w8 ⟨bL, bS, v8, rfl, hl8, hv8, hr8, B8, hbl8⟩)
        clear hint m7
        have B8W : Below W.heap.size W w8 := B7W.out.trans (B8.mono B7W.out.size)
        have hb8 : ∀ {b : Nat} {cs : List Value} {T : TypeId}, Has w7 b cs T → Has w8 b cs T ∧ b < w7.heap.size := fun h => ⟨h.only (Only.of_below B8) (by have := h.lt; omega), h.lt⟩
        obtain ⟨Z1, _⟩ := hb8 Y1.out
        obtain ⟨Z2, _⟩ := hb8 Y2.out
        obtain ⟨Z3, _⟩ := hb8 Y3.out
        obtain ⟨Z4, _⟩ := hb8 Y4.out
        obtain ⟨Z5, _⟩ := hb8 Y5.out
        have Z0 : WantAt w8 L0 (.slice fa L0.length fc) := Y0.out.only (Only.of_below B8) (fun k hk => by have := hwf.out k hk; omega)
        have hs8 := B8.size
        have hbl8' := World.block_lt_of_cell? _ _ hl8
        have hseq : ∀ Wx, Below w8.heap.size w8 Wx → SeqOwn Fence.wide 2 Try.prog 44 #[.pointer (some ⟨bL, 0, none⟩), .pointer (some ⟨bS, 0, none⟩)] (fun x : Value × List Nat => #[x.1]) (fun k => k = bL)
            (GivI w8.heap.size L0) (SeqsI ns.length M L0) (fun _ => True) (M : Int).toNat Wx := fun Wx h => by
          have := inter_own 2 bL bS w8.heap.size ns.length M ns v8 Wx h.size (by omega) ((h.cell hbl8').trans hl8) ((h.cell (World.block_lt_of_cell? _ _ hv8)).trans hv8) (hr8.kept h) (by omega) (fun s hs => by have := hbd.out s hs; omega)
          rw [hL0.out] at this
          exact this hfl hfm.out
        have hWs : W.heap.size ≤ w8.heap.size := B8W.size
        refine wp_rangeFunc_roll2 (q := 11) (gf := 44) (lb := #[.pointer (some ⟨bL, 0, none⟩), .pointer (some ⟨bS, 0, none⟩)]) rfl (enters_of Try.func44 (by kernel_rfl) rfl) hseq (fun k hk => by rw [hk]; exact hbl8') ?hGiv
          (OrdI W W.heap.size w2.heap.size w4.heap.size (w4.heap.size + 1) (w4.heap.size + 1 + 1) M w8.heap.size L0)
          (fun _ _ _ _ => False) ?hI (fun _ _ _ _ _ _ h _ => h) ?h0 ?assign ?body ?done ?stop
        case hGiv =>
          rintro c pre x A l o o' hl ho hcl ⟨h1, h6, B, h2, h5, h3, h4⟩
          exact ⟨h1, h6, B, h2, Nat.le_trans h5 (grownBy_putObj' A l o').size, h3, own_putObj o' h4 ho hcl⟩
        case hI =>
          rintro c pre A E hc ⟨vw, vl, ⟨b1, b2, b3, b4, b5⟩, hw, hwr, d1, d2, hB⟩ hr
          have hnc : ∀ b, b < w8.heap.size → ¬ c b := fun b hb hcb => by have := hc b hcb; omega
          exact ⟨vw, vl, ⟨hr.has (hnc _ (by omega)) b1, hr.has (hnc _ (by omega)) b2, hr.has (hnc _ (by omega)) b3, hr.has (hnc _ (by omega)) b4, hr.has (hnc _ (by omega)) b5⟩,
            hw.roll hr (fun k hk => (d1 k hk).1), hwr.roll hr (fun k hk => (d2 k hk).1), d1, d2, hr.below hc hWs hB (Nat.le_refl _)⟩
        case h0 =>
          intro c hc
          refine ⟨_, _, ⟨Z2, Z1, Z3, Z4, Z5⟩, Z0, ⟨none, 0, 0, rfl, by omega, .inl rfl⟩, fun k hk => ?_, (by intro k hk; cases hk), B8W⟩
          have h1 := hwf.out k hk
          exact ⟨fun h => by have := hc k h; omega, by omega, by omega, by omega, by omega, by omega, by simp [Value.ownBlock]⟩
        case assign =>
          intro l x A K hK
          gi_wp2
          exact hK
        case body =>
          rintro l c pre x A hc ⟨vw, vl, ⟨b1, b2, b3, b4, b5⟩, hw, hwr, d1, d2, hB⟩ ⟨hnx, hxl, B, hDB, hBA, hcB, hown⟩ hlen
          obtain ⟨hwx, hwn⟩ := hw.now hnx
          obtain ⟨x1, L⟩ := x
          obtain ⟨xa, xc, hx1⟩ : ∃ xa xc, x1 = .slice xa L.length xc := by
            rcases hown.2 with ⟨h, h0⟩ | ⟨g, cap', cur, h, _⟩
            · have h0' : L.length = 0 := h0
              exact ⟨none, 0, by rw [h0']; exact h⟩
            · exact ⟨_, _, h⟩
          obtain ⟨va, vn, vc, hvw⟩ : ∃ va vn vc, vw = .slice va vn vc := by
            rcases hwx with ⟨_, a, cp, h⟩ | ⟨_, g, cp, h, _⟩
            · exact ⟨_, _, _, h⟩
            · exact ⟨_, _, _, h⟩
          have hvs : va.isNone = false ∨ L = [] := by
            rcases hwx with ⟨h, _⟩ | ⟨_, g, cp, h, _⟩
            · exact .inr h
            · rw [hvw] at h; cases h; exact .inl rfl
          subst hvw hx1
          have hsame : Calls Try.prog 16 #[(.slice xa L.length xc), (.slice va vn vc)] A fun e w' => e = .returned (.bool true) ∧ ∃ m, A.drewN m = w' := by
            have e1 : intsN L = (L.map fun (n : Nat) => (n : Int)).map (Value.int .i64) := by unfold intsN; rw [List.map_map]; rfl
            have e2 : (L.map fun (n : Nat) => (n : Int)).length = L.length := List.length_map ..
            exact same_true (.slice xa L.length xc) (.slice va vn vc) (L.map fun (n : Nat) => (n : Int)) A (by rw [e2, ← e1]; exact Rd.of_ownB hown) (by rw [e2, ← e1]; exact hwx.rd) (by rw [e2]; have : L.length ≤ 4096 := hxl; omega)
          have g1 : decide ((M : Int) ≤ (pre.length : Int)) = false := decide_eq_false (by omega)
          have g2 : decide (M ≤ pre.length) = false := decide_eq_false (by omega)
          have s4 : A.cell? ⟨w4.heap.size + 1, 0, none⟩ = some (.int .i64 (pre.length : Int)) := b4.cell rfl
          have s2 : A.cell? ⟨w2.heap.size, 0, none⟩ = some (.int .i64 (M : Int)) := b2.cell rfl
          have s3 : A.cell? ⟨w4.heap.size, 0, none⟩ = some (.slice va vn vc) := b3.cell rfl
          have s5 : A.cell? ⟨w4.heap.size + 1 + 1, 0, none⟩ = some vl := b5.cell rfl
          have hwr1 := Wr.of_own hown hxl
          replace hsame := Lib.hid hsame
          replace hwx := Lib.hid hwx
          replace hwr := Lib.hid hwr
          replace hwr1 := Lib.hid hwr1
          replace d1 := Lib.hid d1
          replace d2 := Lib.hid d2
          replace hB := Lib.hid hB
          replace hnx := Lib.hid hnx
          replace hw := Lib.hid hw
          replace hown := Lib.hid hown
          replace hcB := Lib.hid hcB
          have hsp : (decide ((0 : Int) < (pre.length : Int)) = false ∧ decide (0 < pre.length) = false) ∨ (decide ((0 : Int) < (pre.length : Int)) = true ∧ decide (0 < pre.length) = true ∧ va.isNone = false) := by
            by_cases hp : pre = []
            · left; rw [hp]; exact ⟨by decide, by decide⟩
            · have hpos := List.length_pos_iff.2 hp
              exact .inr ⟨decide_eq_true (by omega), decide_eq_true hpos, hvs.resolve_right (hwn hp)⟩
          have heq := fun (w : World) (a : Option Addr) (n c : Nat) => Lib.run_eql_slice_nil (P := Try.prog) w 23 3 a n c 0 0 Try.underlying23
          clear hwn
          obtain ⟨la, lm, lcp, rfl, hlm, hlw⟩ := id hwr.out
          replace hlw := Lib.hid hlw
          rcases hsp with ⟨g3, g4⟩ | ⟨g3, g4, hva⟩
          all_goals
            gi_wp2_with (refine ⟨trivial, ?_⟩; gi_at_call 16; refine (CallsIn.inRound l (callsIn_wide.2 hsame.out)).mono ?_; rintro e w9 ⟨rfl, m9, rfl⟩)
            obtain ⟨A1, hA1⟩ : ∃ A1, A1 = A.drewN m9 := ⟨_, rfl⟩
            rw [← hA1]
            have hlw1 : lm = 0 ∨ ∃ g, la = some ⟨g, 0, none⟩ ∧ ¬ c g ∧ w8.heap.size ≤ g ∧ ∀ j, j < lm → (∃ z, A1.cell? ⟨g, j, none⟩ = some (.int .i64 z)) ∧ A1.frozen? ⟨g, j, none⟩ = false := by
              rcases hlw.out with h | ⟨g, rfl, h⟩
              · exact .inl h
              · exact .inr ⟨g, rfl, (d2.out g rfl).1, (d2.out g rfl).2, by rw [hA1]; exact h⟩
            have hS1 : A1.heap.size = A.heap.size := by rw [hA1]; rfl
            have q5 : A1.cell? ⟨w4.heap.size + 1 + 1, 0, none⟩ = some (.slice la lm lcp) := by rw [hA1]; exact s5
            have hH1 : A1.heap = A.heap := by rw [hA1]; rfl
            have hB1 : Below W.heap.size W A1 := by rw [hA1]; exact below_drewN _ _ hB.out
            have hK1 : KeepsOthers A A1 := by rw [hA1]; exact ⟨Nat.le_refl _, fun _ _ h _ => h⟩
            replace hA1 := Lib.hid hA1
            replace hlw1 := Lib.hid hlw1
            replace hH1 := Lib.hid hH1
            replace hB1 := Lib.hid hB1
            replace hK1 := Lib.hid hK1
            clear s4 s2 s3 s5 hsame
            gi_loopw [62, 12] (fun iv kv wr => ∃ j : Nat, j ≤ lm ∧ iv = .int .i64 (j : Int) ∧ KeepsFrom w8.heap.size A1 wr ∧ (∀ k, k < w8.heap.size ∨ c k ∨ (.slice la lm lcp : Value).ownBlock ≠ some k → wr.heap[k]? = A1.heap[k]?) ∧ wr.os = A1.os ∧ wr.tape = A1.tape ∧ wr.output = A1.output ∧ Wr wr (.slice la lm lcp) ∧ Wr wr (.slice xa L.length xc)) (fun iv _ _ => lm - (intOf iv).toNat)
            case atStart =>
              refine ⟨0, Nat.zero_le _, rfl, KeepsFrom.refl _ _, fun _ _ => rfl, rfl, rfl, rfl, ?_, ?_⟩
              · have := hwr.out; unfold Wr at this ⊢; simp only [World.cell?, World.frozen?, hH1.out] at this ⊢; exact this
              · have := hwr1.out; unfold Wr at this ⊢; simp only [World.cell?, World.frozen?, hH1.out] at this ⊢; exact this
            case round =>
              obtain ⟨j, hj, rfl, hkf, hkeep, ho1, ho2, ho3, hwl, hwx1⟩ := hrel
              have hbl9 : w4.heap.size + 1 + 1 < w8.heap.size := by omega
              have l5 : wr.cell? ⟨w4.heap.size + 1 + 1, 0, none⟩ = some (.slice la lm lcp) := (World.cell?_of_block (hkeep _ (.inl hbl9))).trans q5
              by_cases hlt : j < lm
              · rcases hlw1.out with h | ⟨g, rfl, hg1, hg2, _⟩
                · omega
                obtain ⟨_, _, _, e1, _, e2⟩ := id hwl
                cases e1
                rcases e2 with h | ⟨g', e3, e4⟩
                · omega
                cases e3
                obtain ⟨⟨z, hcz⟩, hfz⟩ := e4 j hlt
                have hd1 : decide ((j : Int) < (lm : Int)) = true := decide_eq_true (by omega)
                have hd2 : decide (j < lm) = true := decide_eq_true hlt
                have hj0 : (0 : Int) ≤ (j : Int) := by omega
                have hjI : (j : Int) < (lm : Int) := by omega
                have hkf2 : KeepsFrom w8.heap.size A1 (wr.setCell ⟨g, j, none⟩ (.int .i64 (-1))) := hkf.trans ((KeepsOthers.setCell _ _ _).from _)
                have hkeep2 : ∀ k, k < w8.heap.size ∨ c k ∨ (.slice (some ⟨g, 0, none⟩) lm lcp : Value).ownBlock ≠ some k → (wr.setCell ⟨g, j, none⟩ (.int .i64 (-1))).heap[k]? = A1.heap[k]? := fun k hk => by
                  have hne : k ≠ g := fun e => by
                    subst e
                    rcases hk with h | h | h
                    · omega
                    · exact hg1 h
                    · exact h rfl
                  rw [heap_setCell_ne (a := ⟨g, j, none⟩) hne]; exact hkeep k hk
                have hwl2 := hwl.setInt ⟨g, j, none⟩ (-1)
                have hwx2 := hwx1.setInt ⟨g, j, none⟩ (-1)
                replace hkf2 := Lib.hid hkf2
                replace hkeep2 := Lib.hid hkeep2
                replace hwl2 := Lib.hid hwl2
                replace hwx2 := Lib.hid hwx2
                replace ho1 := Lib.hid ho1
                replace ho2 := Lib.hid ho2
                replace ho3 := Lib.hid ho3
                clear hkeep hkf hwl hwx1 e4
                gi_wp2
                exact ⟨⟨j + 1, by omega, rfl, hkf2.out, hkeep2.out, ho1.out, ho2.out, ho3.out, hwl2.out, hwx2.out⟩, by simp [intOf]; omega⟩
              · obtain rfl : j = lm := by omega
                have hd1 : decide ((j : Int) < (j : Int)) = false := decide_eq_false (by omega)
                have hd2 : decide (j < j) = false := decide_eq_false (by omega)
                obtain ⟨A2, hA2⟩ : ∃ A2, A2 = wr := ⟨_, rfl⟩
                rw [← hA2] at hkf hkeep ho1 ho2 ho3 hwl hwx1 l5
                have low : ∀ k, k < w8.heap.size → A2.heap[k]? = A.heap[k]? := fun k hk => by rw [hkeep k (.inl hk), hH1.out]
                have y3 : Has A2 w4.heap.size [(.slice va vn vc)] 23 := (low _ (by omega)).trans b3
                have y4 : Has A2 (w4.heap.size + 1) [.int .i64 (pre.length : Int)] 3 := (low _ (by omega)).trans b4
                have y5 : Has A2 (w4.heap.size + 1 + 1) [.slice la j lcp] 23 := (low _ hbl9).trans b5
                obtain ⟨A3, hA3⟩ : ∃ A3, A3 = (A2.setCell ⟨w4.heap.size + 1 + 1, 0, none⟩ (.slice xa L.length xc)).setCell ⟨w4.heap.size + 1, 0, none⟩ (.int .i64 ((pre.length + 1 : Nat) : Int)) := ⟨_, rfl⟩
                have y4b : Has (A2.setCell ⟨w4.heap.size + 1 + 1, 0, none⟩ (.slice xa L.length xc)) (w4.heap.size + 1) [.int .i64 (pre.length : Int)] 3 := y4.set_ne (by simp) (.slice xa L.length xc)
                have z3 : Has A3 w4.heap.size [(.slice va vn vc)] 23 := by rw [hA3]; exact (y3.set_ne (by simp; omega) _).set_ne (by simp) _
                have u5 := y5.cell (o := 0) rfl
                have f5 := y5.free 0
                have u4 := y4b.cell (o := 0) rfl
                have f4 := y4b.free 0
                have hwa : WantAt A3 L (.slice va vn vc) := by
                  refine WantAt.only (S := fun k => k = w4.heap.size + 1 + 1 ∨ k = w4.heap.size + 1) (A := A2) ?_ (fun k hk => ?_) (WantAt.only (S := fun k => (.slice la j lcp : Value).ownBlock = some k) (A := A1) ?_ (fun k hk => ?_) (WantAt.only (S := fun _ => False) (A := A) ?_ (fun k hk h => h) hwx.out))
                  · rw [hA3]; exact ((Only.refl _ _).setCell (a := ⟨w4.heap.size + 1 + 1, 0, none⟩) (fun _ => .inl rfl) _).setCell (a := ⟨w4.heap.size + 1, 0, none⟩) (fun _ => .inr rfl) _
                  · have := d1.out k hk; intro h; omega
                  · exact ⟨ho1, ho2, ho3, hkf.size, fun k _ hk => hkeep k (.inr (.inr hk))⟩
                  · exact (d1.out k hk).2.2.2.2.2.2
                  · rw [hA1.out]; exact (Only.refl _ _).drewN _
                have hwr9 : wrap64 ((pre.length : Int) + 1) = ((pre.length + 1 : Nat) : Int) := by unfold wrap64; omega
                have hcall : Calls Try.prog 31 #[(.slice va vn vc)] ((A2.setCell ⟨w4.heap.size + 1 + 1, 0, none⟩ (.slice xa L.length xc)).setCell ⟨w4.heap.size + 1, 0, none⟩ (.int .i64 ((pre.length : Int) + 1))) fun e w' => ∃ na nn nc, e = .returned (.slice na nn nc) ∧ w'.cell? ⟨w4.heap.size, 0, none⟩ = some (.slice va vn vc) ∧ w'.frozen? ⟨w4.heap.size, 0, none⟩ = false ∧
                    ((nextO L = none ∧ (.slice na nn nc : Value) = .slice none 0 0 ∧ Below A3.heap.size A3 w') ∨ ∃ T, nextO L = some T ∧ T ≠ [] ∧ RNext A3 T (.returned (.slice na nn nc)) w') := by
                  rw [show ((A2.setCell ⟨w4.heap.size + 1 + 1, 0, none⟩ (.slice xa L.length xc)).setCell ⟨w4.heap.size + 1, 0, none⟩ (.int .i64 ((pre.length : Int) + 1))) = A3 from by rw [hA3]; rfl]
                  refine (refnext_any L (.slice va vn vc) A3 hwa hxl).mono ?_
                  rintro e w' (⟨g1, rfl, d, rfl⟩ | ⟨T, g1, g2, g, cp, rfl, g4, g5, g6⟩)
                  · exact ⟨_, _, _, rfl, (z3.drewN d).cell rfl, (z3.drewN d).free 0, .inl ⟨g1, rfl, below_drewN d _ (Below.refl _ _)⟩⟩
                  · have z3' : Has w' w4.heap.size [(.slice va vn vc)] 23 := z3.only (Only.of_below g5) (by have := z3.lt; omega)
                    exact ⟨_, _, _, rfl, z3'.cell rfl, z3'.free 0, .inr ⟨T, g1, g2, g, cp, rfl, g4, g5, g6⟩⟩
                have u3 : ((A2.setCell ⟨w4.heap.size + 1 + 1, 0, none⟩ (.slice xa L.length xc)).setCell ⟨w4.heap.size + 1, 0, none⟩ (.int .i64 ((pre.length : Int) + 1))).cell? ⟨w4.heap.size, 0, none⟩ = some (.slice va vn vc) := by
                  rw [show ((A2.setCell ⟨w4.heap.size + 1 + 1, 0, none⟩ (.slice xa L.length xc)).setCell ⟨w4.heap.size + 1, 0, none⟩ (.int .i64 ((pre.length : Int) + 1))) = A3 from by rw [hA3]; rfl]
                  exact z3.cell rfl
                have hstep := fun v' A4 h4 => ord_step (W0 := W) (br := W.heap.size) (bm := w2.heap.size) (bw := w4.heap.size) (bs := w4.heap.size + 1) (bl := w4.heap.size + 1 + 1) (M := M) (D := w8.heap.size) (bL := bL) (L0 := L0) (c := c) (pre := pre) (A := A) (A1 := A1) (A2 := A2) (A3 := A3) (A4 := A4) (x1 := (.slice xa L.length xc)) (L := L) (v' := v')
                  ⟨by omega, by omega, by omega, by omega, by omega, hbl8'⟩ ⟨by omega, by omega, by omega, by omega, by omega, by omega, by omega, by omega, by omega, by omega, by omega, by omega, by omega⟩ ⟨by omega, by omega, by omega, by omega⟩ hc ⟨b1, b2, b3, b4, b5⟩ hB.out
                  ⟨hnx.out, hxl, B, hDB, hBA, hcB.out, hown.out⟩ d2.out hH1.out hK1.out hB1.out hkf hkeep ⟨ho1, ho2, ho3⟩ hwx1 hA3 h4
                replace hstep := Lib.hid hstep
                replace hcall := Lib.hid hcall
                replace hwr9 := Lib.hid hwr9
                replace hA3 := Lib.hid hA3
                replace b1 := Lib.hid b1
                replace b2 := Lib.hid b2
                replace b3 := Lib.hid b3
                replace b4 := Lib.hid b4
                replace b5 := Lib.hid b5
                subst hA2
                clear hkf hkeep ho1 ho2 ho3 hwl hwx1 low y3 y4 y5 y4b z3 hwa q5 l5
                try clear heq
                gi_wp2_with (refine ⟨trivial, ?_⟩; gi_at_call 31; refine (CallsIn.inRound l (callsIn_wide.2 hcall.out)).mono ?_; rintro e A4 ⟨na, nn, nc, rfl, k1, k2, h4⟩)
                exact hstep.out _ A4 h4
        case done =>
          rintro D c xs A hD hc hS ⟨vw, vl, ⟨b1, b2, b3, b4, b5⟩, hw, hwr, d1, d2, hB⟩ hK
          have s4 : A.cell? ⟨w4.heap.size + 1, 0, none⟩ = some (.int .i64 (xs.length : Int)) := b4.cell rfl
          have s2 : A.cell? ⟨w2.heap.size, 0, none⟩ = some (.int .i64 (M : Int)) := b2.cell rfl
          have s1 : A.cell? ⟨W.heap.size, 0, none⟩ = some (.bool false) := b1.cell rfl
          have f1 := b1.free 0
          have b1' : Has (A.setCell ⟨W.heap.size, 0, none⟩ (.bool true)) W.heap.size [.bool true] 4 := b1.set 0 _
          have hK2 : (A.setCell ⟨W.heap.size, 0, none⟩ (.bool true)).heap[D]? = some (.deferred (some [])) := by
            rw [heap_setCell_ne (a := ⟨W.heap.size, 0, none⟩) (by show D ≠ W.heap.size; omega)]; exact hK
          have hB2 : Below W.heap.size W (A.setCell ⟨W.heap.size, 0, none⟩ (.bool true)) := hB.setCell (p := ⟨W.heap.size, 0, none⟩) (Nat.le_refl _) _
          have hfin : bodyPostM Fence.wide 3 Try.prog Try.f9 post .normal { tmps := #[], defers := [] } A ∨ True := .inr trivial
          have heq := fun (w : World) (a : Option Addr) (n c : Nat) => Lib.run_eql_slice_nil (P := Try.prog) w 23 3 a n c 0 0 Try.underlying23
          have hMt : ((M : Int).toNat) = M := by omega
          obtain ⟨hS1, hS2⟩ := hS
          clear hS1
          rw [hMt] at hS2
          replace b1' := Lib.hid b1'
          replace hK2 := Lib.hid hK2
          replace hB2 := Lib.hid hB2
          replace hB := Lib.hid hB
          by_cases hxm : xs.length = M
          · clear b2 b3 b4 b5 hw hwr d1 d2 hfin hS2
            subst hxm
            go_wp2_with fail
            refine ⟨by simp, .inl ⟨_, _, rfl, run_takeDeferred hK2.out, ?_⟩⟩
            have hc5 := cell_kept (b1'.out.cell (o := 0) rfl) (grownBy_putObj' _ D (.deferred none)) (fun r e => by cases e; exact ⟨_, hK2.out, rfl⟩)
            refine ⟨.bool true, by simp [results, Try.f9, go_sem, hc5], ?_⟩
            rw [← hpost.out]
            exact ⟨rfl, hB2.out.trans (belowK_b (w := w8) hWs _ D _ _ hD hK2.out rfl rfl)⟩
          · have g1 : ((xs.length : Int) == (M : Int)) = false := beq_eq_false_iff_ne.2 (by omega)
            have g3 : decide ((xs.length : Int) = (M : Int)) = false := decide_eq_false (by omega)
            obtain ⟨q, hq1, hq2⟩ := hS2.resolve_left hxm
            have hxs : xs ≠ [] := fun e => by subst e; cases hq1
            have hpos : 0 < xs.length := List.length_pos_iff.2 hxs
            have g4 : decide ((0 : Int) < (xs.length : Int)) = true := decide_eq_true (by omega)
            have g5 : decide (0 < xs.length) = true := decide_eq_true hpos
            unfold WantI at hw
            rw [hq1] at hw
            have hvn : vw = .slice none 0 0 := by
              rcases hw with h | ⟨T, h, _⟩
              · exact h.2
              · rw [hq2] at h; cases h
            subst hvn
            have s3 : A.cell? ⟨w4.heap.size, 0, none⟩ = some (.slice none 0 0) := b3.cell rfl
            clear b2 b3 b4 b5 hw hwr d1 d2 hfin hS2
            replace hxm := Lib.hid hxm
            go_wp2_with fail
            refine ⟨by simp, .inl ⟨_, _, rfl, run_takeDeferred hK2.out, ?_⟩⟩
            have hc5 := cell_kept (b1'.out.cell (o := 0) rfl) (grownBy_putObj' _ D (.deferred none)) (fun r e => by cases e; exact ⟨_, hK2.out, rfl⟩)
            refine ⟨.bool true, by simp [results, Try.f9, go_sem, hc5], ?_⟩
            rw [← hpost.out]
            exact ⟨rfl, hB2.out.trans (belowK_b (w := w8) hWs _ D _ _ hD hK2.out rfl rfl)⟩
        case stop =>
          intro D c j pre A _ _ _ h _
          exact h.elim
theorem orders_walk (a0 : Option Addr) (len0 cap0 : Nat) (z0 : List Int) (a1 : Int) (w : World) (w0 : IsRow .i8 w a0 len0 cap0 z0) (_w1 : (Lit.int .i64 a1).wf = true) :
    Calls Try.prog 9 #[.slice a0 len0 cap0, .int .i64 a1] w fun e w' => e = .returned (.bool true) ∧ Below w.heap.size w w' := by
  obtain ⟨ys0, rfl, _, r0, b0, l0⟩ := w0.rd
  exact orders_short a0 cap0 ys0 a1 w r0 (fun z hz => bounds_i8 (b0 z hz)) l0
end Go.Proofs.Ytdminbjenbbpaaa
