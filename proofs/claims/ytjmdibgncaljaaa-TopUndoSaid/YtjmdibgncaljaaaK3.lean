/- crashset: what examine returns. crashset: total and Count. crashset: the digits of a combination. -/
import Derived.Test.YtjmdibgncaljaaaD16
import Derived.Deep.RegionLaw
import Derived.Test.YtjmdibgncaljaaaMul
/-! crashset: what examine returns. -/
namespace Go.Proofs.Ytjmdibgncaljaaa.Dev
open Go.RowKit Go.Maps
variable {w : World} {F : Own} {o T : Nat} {R : Dv} {L : Lay}

theorem infoSW : (Try.prog.info? 88).map (fun i => (i.zero, i.size, i.bytes)) = some (some (Value.slice none 0 0), 1, 24) := by kernel_rfl
/-- The histories of the first lines of a list, as slices that may be read. -/
def HistAt (w : World) (R : Dv) (ds : List Nat) (hv : List Value) : Prop :=
  hv.length = ds.length ∧ ∀ (i l : Nat), ds[i]? = some l → ∃ a c, hv[i]? = some (Value.slice a (R.line l).hist.length c) ∧ SubV w 133 2 (.slice a (R.line l).hist.length c) (R.line l).hist.length (wcells (R.line l).hist)
theorem HistAt.kept {w w' : World} {ds : List Nat} {hv : List Value} (h : HistAt w R ds hv) (hb : Below w.heap.size w w') : HistAt w' R ds hv := by
  refine ⟨h.1, fun i l hl => ?_⟩
  obtain ⟨a, c, h1, h2⟩ := h.2 i l hl
  exact ⟨a, c, h1, h2.only (Only.of_below hb) (fun k hk => by have := h2.lt hk; omega)⟩
theorem HistAt.snoc {w : World} {ds : List Nat} {hv : List Value} (h : HistAt w R ds hv) {l : Nat} {a : Option Addr} {c : Nat} (hs : SubV w 133 2 (.slice a (R.line l).hist.length c) (R.line l).hist.length (wcells (R.line l).hist)) :
    HistAt w R (ds ++ [l]) (hv ++ [.slice a (R.line l).hist.length c]) := by
  refine ⟨by simp [h.1], fun i l' hl => ?_⟩
  by_cases hi : i < ds.length
  · rw [List.getElem?_append_left hi] at hl
    obtain ⟨a', c', h1, h2⟩ := h.2 i l' hl
    exact ⟨a', c', by rw [List.getElem?_append_left (by rw [h.1]; exact hi)]; exact h1, h2⟩
  · have hi2 : i = ds.length := by
      rcases Nat.lt_or_ge i (ds ++ [l]).length with h3 | h3
      · simp at h3; omega
      · rw [List.getElem?_eq_none h3] at hl; cases hl
    subst hi2
    rw [List.getElem?_append_right (Nat.le_refl _), Nat.sub_self] at hl
    cases hl
    exact ⟨a, c, by rw [← h.1, List.getElem?_append_right (Nat.le_refl _), Nat.sub_self]; rfl, hs⟩
theorem HistAt.only {S : Nat → Prop} {w w' : World} {ds : List Nat} {hv : List Value} (h : HistAt w R ds hv) (ho : Only S w w') (hs : ∀ v ∈ hv, ∀ k, v.ownBlock = some k → ¬ S k) : HistAt w' R ds hv := by
  refine ⟨h.1, fun i l hl => ?_⟩
  obtain ⟨a, c, h1, h2⟩ := h.2 i l hl
  exact ⟨a, c, h1, h2.only ho (fun k hk => hs _ (List.mem_of_getElem? h1) k hk)⟩
theorem has_news {w : World} {b : Nat} {cs : List Value} {E : TypeId} (hh : Has w b cs E) : ∀ j u, cs[j]? = some u → w.cell? ((⟨b, 0, none⟩ : Addr).add j) = some u := fun j u hj => by
  have : (⟨b, 0, none⟩ : Addr).add j = ⟨b, j, none⟩ := by unfold Addr.add; split <;> simp_all
  rw [this]; exact hh.cell hj
/-- A set's three slices: the persisted bytes, the dirty lines, their histories. -/
structure SetSt (w : World) (R : Dv) (pv lv hv : Value) : Prop where
  p : ∃ b, pv = .slice (some ⟨b, 0, none⟩) (bytesL R.perW).length (bytesL R.perW).length ∧ Has w b (u8s (bytesL R.perW)) 5
  l : ∃ a c, lv = .slice a (dirtyL R).length c ∧ Rd w lv (dirtyL R).length (nats (dirtyL R))
  h : ∃ a c vs, hv = .slice a (dirtyL R).length c ∧ HistAt w R (dirtyL R) vs ∧ Rd w hv (dirtyL R).length vs
theorem SetSt.kept {w w' : World} {pv lv hv : Value} (h : SetSt w R pv lv hv) (hb : Below w.heap.size w w') : SetSt w' R pv lv hv := by
  obtain ⟨⟨b, h1, h2⟩, ⟨a, c, h3, h4⟩, ⟨a', c', vs, h5, h6, h7⟩⟩ := h
  exact ⟨⟨b, h1, h2.only (Only.of_below hb) (by have := h2.lt; omega)⟩, ⟨a, c, h3, h4.kept hb⟩, ⟨a', c', vs, h5, h6.kept hb, h7.kept hb⟩⟩
def ExPost (w : World) (R : Dv) (e : Ending) (w' : World) : Prop :=
  ∃ pv lv hv, e = .returned (.agg #[pv, lv, hv]) ∧ SetSt w' R pv lv hv ∧ Below w.heap.size w w'
/-- The same, with all its blocks at or beyond B. -/
structure SetNew (w : World) (R : Dv) (B : Nat) (pv lv hv : Value) : Prop where
  p : ∃ b, pv = .slice (some ⟨b, 0, none⟩) (bytesL R.perW).length (bytesL R.perW).length ∧ Has w b (u8s (bytesL R.perW)) 5 ∧ B ≤ b
  l : ∃ a c, lv = .slice a (dirtyL R).length c ∧ Rd w lv (dirtyL R).length (nats (dirtyL R)) ∧ ∀ k, lv.ownBlock = some k → B ≤ k
  h : ∃ a c vs, hv = .slice a (dirtyL R).length c ∧ HistAt w R (dirtyL R) vs ∧ Rd w hv (dirtyL R).length vs ∧ (∀ k, hv.ownBlock = some k → B ≤ k) ∧ ∀ v ∈ vs, ∀ k, v.ownBlock = some k → B ≤ k
theorem SetNew.st {w : World} {B : Nat} {pv lv hv : Value} (h : SetNew w R B pv lv hv) : SetSt w R pv lv hv := by
  obtain ⟨⟨b, h1, h2, _⟩, ⟨a, c, h3, h4, _⟩, ⟨a', c', vs, h5, h6, h7, _⟩⟩ := h
  exact ⟨⟨b, h1, h2⟩, ⟨a, c, h3, h4⟩, ⟨a', c', vs, h5, h6, h7⟩⟩
def ExNew (w : World) (R : Dv) (e : Ending) (w' : World) : Prop :=
  ∃ pv lv hv, e = .returned (.agg #[pv, lv, hv]) ∧ SetNew w' R w.heap.size pv lv hv ∧ Below w.heap.size w w'
set_option maxHeartbeats 4000000 in
set_option maxRecDepth 100000 in
theorem examine_new (h : DevSt w F o L T R) : Calls Try.prog 51 #[.pointer (some ⟨L.g, 0, none⟩)] w (ExNew w R) := by
  generalize hpost : ExNew w R = post
  have hn2 := h.ok.n2
  have hdl := dirtyTo_len R R.lines.length
  have hB0 : Below w.heap.size w (w.alloc (.cells #[.slice none 0 0, .slice none 0 0, .slice none 0 0] 127)) := (Below.refl _ _).alloc (Nat.le_refl _) _
  have hdev := fun (wx : World) (hb : Below w.heap.size w wx) => h.other (o' := o + 1) (Dstep.below hb) (by omega)
  have hper := Lib.hid (fun (wx : World) (hb : Below w.heap.size w wx) => persisted_any (hdev wx hb))
  have hdir := Lib.hid (fun (wx : World) (hb : Below w.heap.size w wx) => dirty_any (hdev wx hb))
  have hhis := Lib.hid (fun (wx : World) (hb : Below w.heap.size w wx) (i : Nat) (hi : i < R.lines.length) => history_any (hdev wx hb) hi)
  replace hpost := Lib.hid hpost
  replace hdl := Lib.hid hdl
  replace hB0 := Lib.hid hB0
  clear hdev h
  go_enter Try.func51, Try.ntmps51
  go_wp2_with fail
  refine (hper.out _ hB0.out).mono ?_
  rintro e w1 ⟨pb, rfl, hp1, B1, hpf⟩
  have B1w := hB0.out.trans (B1.mono hB0.out.size)
  have hr1 : Has w1 w.heap.size [.slice none 0 0, .slice none 0 0, .slice none 0 0] 127 := (Has.new w [.slice none 0 0, .slice none 0 0, .slice none 0 0] 127).only (Only.of_below B1) (by simp)
  replace hp1 := Lib.hid hp1
  replace B1w := Lib.hid B1w
  replace hr1 := Lib.hid hr1
  clear B1
  go_wp2_with fail
  refine (hdir.out _ B1w.out).mono ?_
  rintro e w2 ⟨la, lc, rfl, hl2, B2, hlf⟩
  have B2w := B1w.out.trans (B2.mono B1w.out.size)
  have hr2 := hr1.out.only (Only.of_below B2) (by have := hr1.out.lt; omega)
  have hp2 := hp1.out.only (Only.of_below B2) (by have := hp1.out.lt; omega)
  have hlr2 := Rd.of_own hl2
  have hll2 := fun k hk => ownsRow_lt hl2 (k := k) hk
  have hpl2 := hp2.lt
  have hrl2 := hr2.lt
  have hdm : ∀ k, k < (dirtyL R).length → (dirtyL R)[k]? = some ((dirtyL R).getD k 0) ∧ (dirtyL R).getD k 0 < R.lines.length := fun k hk => by
    have h1 := get_of_lt 0 hk
    exact ⟨h1, (dirtyTo_mem (List.mem_of_getElem? h1)).1⟩
  have hfin : ∀ (vs : List Value) (a : Option Addr) (c : Nat) (wr w' : World), Below w2.heap.size w2 wr → Only (fun j => j = w.heap.size) wr w' → HistAt wr R (dirtyL R) vs → (∀ v ∈ vs, ∀ j, v.ownBlock = some j → w2.heap.size < j) →
      Rd wr (.slice a (dirtyL R).length c) (dirtyL R).length vs → (∀ j, Value.ownBlock (.slice a (dirtyL R).length c) = some j → w2.heap.size < j) → Below w.heap.size w wr →
      post (.returned (.agg #[.slice (some ⟨pb, 0, none⟩) (bytesL R.perW).length (bytesL R.perW).length, .slice la (dirtyL R).length lc, .slice a (dirtyL R).length c])) w' := by
    intro vs a c wr w' h1 ho h2 h2f h3 h3f h4
    have hz1 := B1w.out.size
    simp only [World.size_alloc] at hpf
    rw [← hpost.out]
    have hz2 := hr1.out.lt
    refine ⟨_, _, _, rfl, ⟨⟨pb, rfl, (hp2.only (Only.of_below h1) (by omega)).only ho (by omega), by omega⟩, ⟨la, lc, rfl, (hlr2.kept h1).only ho (fun k hk => ?_), fun k hk => ?_⟩, ⟨a, c, vs, rfl, h2.only ho (fun v hv k hk => ?_), h3.only ho (fun k hk => ?_), fun k hk => ?_, fun v hv k hk => ?_⟩⟩, h4.trans (ho.below (B := w.heap.size) h4.size (fun j _ s => by omega))⟩
    · have := hlf k hk; omega
    · have := hlf k hk; omega
    · have := h2f v hv k hk; omega
    · have := h3f k hk; omega
    · have := h3f k hk; omega
    · have := h2f v hv k hk; omega
  have hlr3 := fun (w' : World) (h1 : Below w2.heap.size w2 w') => hlr2.kept h1
  have hr3 := fun (w' : World) (h1 : Below w2.heap.size w2 w') => hr2.only (Only.of_below h1) (by omega)
  replace hfin := Lib.hid hfin
  replace hlr3 := Lib.hid hlr3
  replace hr3 := Lib.hid hr3
  replace hdm := Lib.hid hdm
  replace B2w := Lib.hid B2w
  clear B2 hr2 hp2 hlr2 hl2 hr1 hp1 hper hdir hpost
  have hdl2 : (dirtyL R).length ≤ 4096 := by have h1 : (dirtyL R).length ≤ R.lines.length := hdl.out; omega
  generalize (bytesL R.perW).length = np at *
  generalize hds : dirtyL R = ds at *
  replace hds := Lib.hid hds
  go_wp2_with fail
  go_loopw [5, 14] (fun _ iv wr => ∃ (k : Nat) (a : Option Addr) (c : Nat) (vs : List Value), k ≤ ds.length ∧ iv = .int .i64 (k : Int) ∧ Has wr w2.heap.size [.slice (some ⟨pb, 0, none⟩) np np, .slice la ds.length lc, .slice a k c] 127 ∧
      HistAt wr R (ds.take k) vs ∧ wr.ownsRow 0 88 1 (.slice a k c) k vs ∧ Below w2.heap.size w2 wr ∧ Below w.heap.size w wr ∧ (∀ j, Value.ownBlock (.slice a k c) = some j → w2.heap.size < j) ∧
      (∀ v ∈ vs, ∀ j, v.ownBlock = some j → w2.heap.size < j ∧ j < wr.heap.size ∧ Value.ownBlock (.slice a k c) ≠ some j)) (fun _ iv _ => ds.length - (intOf iv).toNat)
  case atStart =>
    have hb3 : Below w2.heap.size w2 (w2.alloc (.cells #[.slice (some ⟨pb, 0, none⟩) np np, .slice la ds.length lc, .slice none 0 0] 127)) := (Below.refl _ _).alloc (Nat.le_refl _) _
    exact ⟨0, none, 0, [], Nat.zero_le _, rfl, Has.new w2 [.slice (some ⟨pb, 0, none⟩) np np, .slice la ds.length lc, .slice none 0 0] 127, ⟨by simp, fun i l h => by simp at h⟩, World.ownsRow_nil _ _ _ _, hb3, B2w.out.trans (hb3.mono B2w.out.size), by simp [Value.ownBlock], by simp⟩
  case round =>
    obtain ⟨k, a, c, vs, hk, rfl, hS, hH, hown, hB2, hB, hf1, hf2⟩ := hrel
    have s2 := hS.cell (o := 2) rfl
    by_cases hlt : k < ds.length
    · have hkI : decide ((k : Int) < (ds.length : Int)) = true := decide_eq_true (by omega)
      have hkN : decide (k < ds.length) = true := decide_eq_true hlt
      have hk0 : (0 : Int) ≤ (k : Int) := by omega
      have hkl : (k : Int) < (ds.length : Int) := by omega
      obtain ⟨hdk, hdr⟩ := hdm.out k hlt
      obtain ⟨bl, ol, cl, ea, fa⟩ := (hlr3.out wr hB2).cells (by omega)
      simp only [Value.slice.injEq, true_and] at ea
      obtain ⟨rfl, ea2⟩ := ea
      replace ea2 := Lib.hid ea2
      have ck : wr.cell? ⟨bl, ol + k, none⟩ = some (.int .i64 ((ds.getD k 0 : Nat) : Int)) := fa _ _ (nats_get _ _ _ hdk)
      have htk := take_getD ds k 0 hlt
      generalize ds.getD k 0 = d at *
      have hhc : Calls Try.prog 92 #[.pointer (some ⟨L.g, 0, none⟩), .int .i64 (d : Int)] wr.drew (fun e w5 => ∃ ha hc, e = .returned (.slice ha (R.line d).hist.length hc) ∧ w5.ownsRow 0 133 2 (.slice ha (R.line d).hist.length hc) (R.line d).hist.length (wcells (R.line d).hist) ∧ Below wr.heap.size wr w5 ∧
          (∀ j, Value.ownBlock (.slice ha (R.line d).hist.length hc) = some j → wr.heap.size ≤ j) ∧
          w5.cell? ⟨w2.heap.size, 2, none⟩ = some (.slice a k c) ∧ (w5.alloc (.cells #[.slice ha (R.line d).hist.length hc] 88)).cell? ⟨w2.heap.size, 2, none⟩ = some (.slice a k c) ∧
          Has (w5.alloc (.cells #[.slice ha (R.line d).hist.length hc] 88)) w5.heap.size [.slice ha (R.line d).hist.length hc] 88 ∧
          (w5.alloc (.cells #[.slice ha (R.line d).hist.length hc] 88)).ownsRow 0 88 1 (.slice a k c) k vs ∧
          Has (w5.alloc (.cells #[.slice ha (R.line d).hist.length hc] 88)) w2.heap.size [.slice (some ⟨pb, 0, none⟩) np np, .slice (some ⟨bl, ol, none⟩) ds.length lc, .slice a k c] 127) := by
        have hbn : Below wr.heap.size wr wr.drew := ⟨rfl, rfl, rfl, Nat.le_refl _, fun _ _ => rfl⟩
        refine (hhis.out wr.drew (hB.trans (hbn.mono hB.size)) d hdr).mono ?_
        rintro e w5 ⟨ha, hc, rfl, h1, h2, h3⟩
        have h4 : Below wr.heap.size wr w5 := hbn.trans h2
        have h5 := h4.size
        have hS5 : Has w5 w2.heap.size _ _ := hS.only (Only.of_below h4) (by have := hS.lt; omega)
        have hown5 : w5.ownsRow 0 88 1 (.slice a k c) k vs := ownsRow_only hown (Only.of_below h4) (fun j hj => by have := ownsRow_lt hown hj; omega)
        exact ⟨ha, hc, rfl, h1, h4, h3, hS5.cell (o := 2) rfl, (hS5.alloc _).cell (o := 2) rfl, Has.new w5 [.slice ha (R.line d).hist.length hc] 88, hown5.alloc _, hS5.alloc _⟩
      replace hhc := Lib.hid hhc
      replace htk := Lib.hid htk
      replace hH := Lib.hid hH
      replace hown := Lib.hid hown
      replace hB2 := Lib.hid hB2
      replace hB := Lib.hid hB
      replace hf1 := Lib.hid hf1
      replace hf2 := Lib.hid hf2
      replace hS := Lib.hid hS
      replace hdk := Lib.hid hdk
      clear fa
      go_wp2_with fail
      go_region_law (first
        | (refine step_app2 (by rfl) _ _ _ (by rfl) 88 (.slice none 0 0) 1 24 Try.underlying125 infoSW (by rfl) (by decide) (by decide) a k c vs (by exact ho5.out) (by rfl) ⟨w5.heap.size, 0, none⟩ 1 1 [.slice ha (R.line d).hist.length hc] (by rfl) (by rfl) (by exact has_news hn5.out) (by simp [Value.oneCell']) (by omega) ?_; intro sa6 cp6 w6 own6 only6 fr6; have hS7 := hS6.out.only only6 (fun e => by have := hf1.out _ e; omega); have g7 := hS7.cell (o := 2) rfl; have f7 := hS7.free 2; replace own6 := Lib.hid own6; replace only6 := Lib.hid only6; replace fr6 := Lib.hid fr6; replace hS7 := Lib.hid hS7)
        | (go_simp; with_reducible refine (hhc.out).mono ?_; rintro e w5 ⟨ha, hc, rfl, hx5, hB5, hfx5, t5, t6, hn5, ho5, hS6⟩; replace hS6 := Lib.hid hS6; replace hn5 := Lib.hid hn5; replace ho5 := Lib.hid ho5; replace hx5 := Lib.hid hx5; replace hB5 := Lib.hid hB5; replace hfx5 := Lib.hid hfx5))
      all_goals
        have hrel : ∃ (k' : Nat) (a' : Option Addr) (c' : Nat) (vs' : List Value), k' ≤ ds.length ∧ Value.int .i64 ((k : Int) + 1) = .int .i64 (k' : Int) ∧ Has (w6.setCell ⟨w2.heap.size, 2, none⟩ (.slice sa6 (k + 1) cp6)) w2.heap.size [.slice (some ⟨pb, 0, none⟩) np np, .slice (some ⟨bl, ol, none⟩) ds.length lc, .slice a' k' c'] 127 ∧
            HistAt (w6.setCell ⟨w2.heap.size, 2, none⟩ (.slice sa6 (k + 1) cp6)) R (ds.take k') vs' ∧ (w6.setCell ⟨w2.heap.size, 2, none⟩ (.slice sa6 (k + 1) cp6)).ownsRow 0 88 1 (.slice a' k' c') k' vs' ∧
            Below w2.heap.size w2 (w6.setCell ⟨w2.heap.size, 2, none⟩ (.slice sa6 (k + 1) cp6)) ∧ Below w.heap.size w (w6.setCell ⟨w2.heap.size, 2, none⟩ (.slice sa6 (k + 1) cp6)) ∧ (∀ j, Value.ownBlock (.slice a' k' c') = some j → w2.heap.size < j) ∧
            (∀ v ∈ vs', ∀ j, v.ownBlock = some j → w2.heap.size < j ∧ j < (w6.setCell ⟨w2.heap.size, 2, none⟩ (.slice sa6 (k + 1) cp6)).heap.size ∧ Value.ownBlock (.slice a' k' c') ≠ some j) := by
          have hss := hS.out.lt
          have hs5 := hB5.out.size
          have hs6 := only6.out.size
          simp only [World.size_alloc] at hs6
          have O5 : Only (fun j => Value.ownBlock (.slice a k c) = some j ∨ j = w2.heap.size) wr w5 := (Only.of_below hB5.out).mono (fun j hj s => by omega)
          have O6 := (O5.alloc (.cells #[.slice ha (R.line d).hist.length hc] 88)).trans' only6.out (fun j _ hj => .inl hj)
          have O7 := O6.setCell (a := ⟨w2.heap.size, 2, none⟩) (fun _ => .inr rfl) (.slice sa6 (k + 1) cp6)
          have hnew : ∀ j, Value.ownBlock (.slice sa6 (k + 1) cp6) = some j → w2.heap.size < j ∧ (Value.ownBlock (.slice a k c) = some j ∨ w5.heap.size < j) := fun j hj => by
            rcases fr6.out j hj with h1 | h1
            · exact ⟨hf1.out j h1, .inl h1⟩
            · simp only [World.size_alloc] at h1; exact ⟨by omega, .inr (by omega)⟩
          have X5 : SubV w5 133 2 (.slice ha (R.line d).hist.length hc) (R.line d).hist.length (wcells (R.line d).hist) := SubV.of_own hx5.out
          have X7 : SubV (w6.setCell ⟨w2.heap.size, 2, none⟩ (.slice sa6 (k + 1) cp6)) 133 2 (.slice ha (R.line d).hist.length hc) (R.line d).hist.length (wcells (R.line d).hist) :=
            ((X5.alloc (.cells #[.slice ha (R.line d).hist.length hc] 88)).only only6.out (fun j hj e => by
              have h1 := hfx5.out j hj; have h2 := ownsRow_lt hown.out e; omega)).only ((Only.refl (fun j => j = w2.heap.size) _).setCell (a := ⟨w2.heap.size, 2, none⟩) (fun _ => rfl) _) (fun j hj e => by have h1 := hfx5.out j hj; omega)
          refine ⟨k + 1, sa6, cp6, vs ++ [.slice ha (R.line d).hist.length hc], by omega, by go_num, hS7.out.set 2 _, ?_, ?_, ?_, ?_, fun j hj => (hnew j hj).1, ?_⟩
          · rw [htk.out]
            refine HistAt.snoc (hH.out.only O7 (fun v hv j hj s => ?_)) X7
            have h1 := hf2.out v hv j hj
            rcases s with s | s
            · exact h1.2.2 s
            · omega
          · exact ownsRow_only own6.out ((Only.refl (fun j => j = w2.heap.size) w6).setCell (a := ⟨w2.heap.size, 2, none⟩) (fun _ => rfl) _) (fun j hj e => by have := (hnew j hj).1; omega)
          · exact hB2.out.trans (O7.below (B := w2.heap.size) (by omega) (fun j _ s => by
              rcases s with s | s
              · have := hf1.out j s; omega
              · omega))
          · exact hB.out.trans (O7.below (B := w.heap.size) hB.out.size (fun j _ s => by
              have hw2 := B2w.out.size
              rcases s with s | s
              · have := hf1.out j s; omega
              · omega))
          · intro v hv j hj
            rw [World.size_setCell]
            rcases List.mem_append.1 hv with h | h
            · have h1 := hf2.out v h j hj
              refine ⟨h1.1, by omega, fun e => ?_⟩
              rcases (hnew j e).2 with h2 | h2
              · exact h1.2.2 h2
              · omega
            · rw [List.mem_singleton] at h
              subst h
              have h1 := hfx5.out j hj
              have h2 := X5.lt hj
              refine ⟨by omega, by omega, fun e => ?_⟩
              rcases (hnew j e).2 with h3 | h3
              · have := ownsRow_lt hown.out h3; omega
              · omega
        replace hrel := Lib.hid hrel
        clear own6 only6 fr6 hS7 hn5 ho5 hx5 hB5 hfx5 t5 t6 g7 f7 hS6
        go_wp2_with fail
        exact ⟨hrel.out, by simp [intOf]; omega⟩
    · obtain rfl : k = ds.length := by omega
      have hkI : decide ((ds.length : Int) < (ds.length : Int)) = false := decide_eq_false (by omega)
      have hkN : decide (ds.length < ds.length) = false := decide_eq_false (by omega)
      have s0 := hS.cell (o := 0) rfl
      have s1 := hS.cell (o := 1) rfl
      rw [List.take_length] at hH
      have hrr : Has wr w.heap.size [.slice none 0 0, .slice none 0 0, .slice none 0 0] 127 := hr3.out wr hB2
      have hx : ∀ w', Only (fun j => j = w.heap.size) wr w' → post (.returned (.agg #[.slice (some ⟨pb, 0, none⟩) np np, .slice la ds.length lc, .slice a ds.length c])) w' := fun w' ho =>
        hfin.out vs a c wr w' hB2 ho hH (fun v hv j hj => (hf2 v hv j hj).1) (Rd.of_own hown) hf1 hB
      have r0 := hrr.cell (o := 0) rfl
      have r1 := hrr.cell (o := 1) rfl
      have r2 := hrr.cell (o := 2) rfl
      have q0 := hrr.free 0
      have q1 := hrr.free 1
      have q2 := hrr.free 2
      replace hx := Lib.hid hx
      replace hrr := Lib.hid hrr
      clear hH hown hB2 hB hf1 hf2 hS
      go_wp2_with fail
      have hR3 : Has (((wr.setCell ⟨w.heap.size, 0, none⟩ (.slice (some ⟨pb, 0, none⟩) np np)).setCell ⟨w.heap.size, 1, none⟩ (.slice la ds.length lc)).setCell ⟨w.heap.size, 2, none⟩ (.slice a ds.length c)) w.heap.size
          [.slice (some ⟨pb, 0, none⟩) np np, .slice la ds.length lc, .slice a ds.length c] 127 := ((hrr.out.set 0 _).set 1 _).set 2 _
      have q0 := hR3.cell (o := 0) rfl
      have q1 := hR3.cell (o := 1) rfl
      have q2 := hR3.cell (o := 2) rfl
      have hx3 := hx.out _ ((((Only.refl (fun j => j = w.heap.size) wr).setCell (a := ⟨w.heap.size, 0, none⟩) (fun _ => rfl) (.slice (some ⟨pb, 0, none⟩) np np)).setCell (a := ⟨w.heap.size, 1, none⟩) (fun _ => rfl) (.slice la ds.length lc)).setCell (a := ⟨w.heap.size, 2, none⟩) (fun _ => rfl) (.slice a ds.length c))
      exact bodyPost_ret (v := .agg #[.slice (some ⟨pb, 0, none⟩) np np, .slice la ds.length lc, .slice a ds.length c]) (by simp [results, Try.results51, go_sem, q0, q1, q2]) rfl hx3
theorem examine_any (h : DevSt w F o L T R) : Calls Try.prog 51 #[.pointer (some ⟨L.g, 0, none⟩)] w (ExPost w R) :=
  (examine_new h).mono fun _ _ ⟨pv, lv, hv, e, s, b⟩ => ⟨pv, lv, hv, e, s.st, b⟩
end Go.Proofs.Ytjmdibgncaljaaa.Dev

/-! crashset: total and Count. -/
namespace Go.Proofs.Ytjmdibgncaljaaa.Dev
open Go.RowKit Go.Maps
variable {w : World} {F : Own} {o T : Nat} {R : Dv} {L : Lay}

def baseL (R : Dv) (l : Nat) : Nat := (R.line l).hist.length + 1
def prodL (R : Dv) (ds : List Nat) : Nat := ds.foldl (fun t l => t * baseL R l) 1
theorem prodL_snoc (R : Dv) (ds : List Nat) (l : Nat) : prodL R (ds ++ [l]) = prodL R ds * baseL R l := by unfold prodL; rw [List.foldl_append]; rfl
theorem prodL_take (R : Dv) (ds : List Nat) (k : Nat) (h : k < ds.length) : prodL R (ds.take (k + 1)) = prodL R (ds.take k) * baseL R (ds.getD k 0) := by
  rw [take_getD ds k 0 h, prodL_snoc]
theorem prodL_pos (R : Dv) (ds : List Nat) : 1 ≤ prodL R ds := by
  unfold prodL
  suffices h : ∀ t, 1 ≤ t → 1 ≤ ds.foldl (fun t l => t * baseL R l) t from h 1 (Nat.le_refl _)
  induction ds with
  | nil => intro t h; exact h
  | cons l ds ih => intro t h; exact ih _ (Nat.mul_pos h (Nat.succ_pos _))
theorem prodL_mono (R : Dv) (ds : List Nat) (k : Nat) : prodL R (ds.take k) ≤ prodL R ds := by
  have h := List.take_append_drop k ds
  have h2 : prodL R ds = (ds.drop k).foldl (fun t l => t * baseL R l) (prodL R (ds.take k)) := by
    conv => lhs; rw [← h]
    unfold prodL; rw [List.foldl_append]
  rw [h2]
  generalize prodL R (ds.take k) = t
  clear h2 h
  revert t
  induction ds.drop k with
  | nil => intro t; exact Nat.le_refl _
  | cons l r ih => intro t; exact Nat.le_trans (Nat.le_mul_of_pos_right _ (Nat.succ_pos _)) (ih _)
def totV (R : Dv) : Nat × Bool := if prodL R (dirtyL R) < 18446744073709551616 then (prodL R (dirtyL R), true) else (0, false)
def cntV (R : Dv) : Nat × Bool := if prodL R (dirtyL R) ≤ 4611686018427387904 then (prodL R (dirtyL R), true) else (4611686018427387904, false)
def TotPost (w : World) (v : Nat × Bool) (e : Ending) (w' : World) : Prop := e = .returned (.tuple #[.int .u64 ((v.1 : Nat) : Int), .bool v.2]) ∧ Below w.heap.size w w'
set_option maxHeartbeats 2000000 in
set_option maxRecDepth 100000 in
theorem total_any (hok : R.Ok T) {pv lv hv : Value} (hs : SetSt w R pv lv hv) : Calls Try.prog 52 #[.agg #[pv, lv, hv]] w (TotPost w (totV R)) := by
  generalize hpost : TotPost w (totV R) = post
  have ht := hok.t
  have hn2 := hok.n2
  have hdl : (dirtyL R).length ≤ R.lines.length := dirtyTo_len R R.lines.length
  have hdm : ∀ k, k < (dirtyL R).length → (dirtyL R)[k]? = some ((dirtyL R).getD k 0) ∧ baseL R ((dirtyL R).getD k 0) ≤ 100001 := fun k hk => by
    have h1 := get_of_lt 0 hk
    have h2 := (hok.ln _ (dirtyTo_mem (List.mem_of_getElem? h1)).1).hl
    refine ⟨h1, ?_⟩
    unfold baseL; omega
  have hpm := prodL_mono R (dirtyL R)
  have hpt := prodL_take R (dirtyL R)
  have hpp := prodL_pos R
  have hfin : ∀ w', Below w.heap.size w w' → (prodL R (dirtyL R) < 18446744073709551616 → post (.returned (.tuple #[.int .u64 ((prodL R (dirtyL R) : Nat) : Int), .bool true])) w') ∧ (18446744073709551616 ≤ prodL R (dirtyL R) → post (.returned (.tuple #[.int .u64 0, .bool false])) w') := fun w' h => by
    rw [← hpost]
    refine ⟨fun h1 => ?_, fun h1 => ?_⟩
    · unfold totV; rw [if_pos h1]; exact ⟨rfl, h⟩
    · unfold totV; rw [if_neg (by omega)]; exact ⟨rfl, h⟩
  clear hpost
  obtain ⟨⟨pb, rfl, hp⟩, ⟨la, lc, rfl, hl⟩, ⟨ha, hc, vs, rfl, hH, hr⟩⟩ := hs
  have hB0 : Below w.heap.size w (w.alloc (.cells #[.slice (some ⟨pb, 0, none⟩) (bytesL R.perW).length (bytesL R.perW).length, .slice la (dirtyL R).length lc, .slice ha (dirtyL R).length hc] 127)) := (Below.refl _ _).alloc (Nat.le_refl _) _
  have hr0 := hr.kept hB0
  have hfin0 := hfin _ hB0
  have hHg := hH.2
  generalize dirtyL R = ds at *
  generalize (bytesL R.perW).length = np at *
  replace hfin0 := Lib.hid hfin0
  replace hpm := Lib.hid hpm
  replace hpt := Lib.hid hpt
  replace hpp := Lib.hid hpp
  replace hdm := Lib.hid hdm
  replace hr0 := Lib.hid hr0
  replace hHg := Lib.hid hHg
  clear hp hl hH hr hfin hok hB0
  go_enter Try.func52, Try.ntmps52
  go_wp2_with fail
  go_loopw [4, 12] (fun tv iv wr => ∃ k : Nat, k ≤ ds.length ∧ iv = .int .i64 (k : Int) ∧ tv = .int .u64 ((prodL R (ds.take k) : Nat) : Int) ∧ prodL R (ds.take k) < 18446744073709551616 ∧ wr = w.alloc (.cells #[.slice (some ⟨pb, 0, none⟩) np np, .slice la ds.length lc, .slice ha ds.length hc] 127)) (fun _ iv _ => ds.length - (intOf iv).toNat)
  case atStart => exact ⟨0, Nat.zero_le _, rfl, rfl, by rw [List.take_zero]; show 1 < 18446744073709551616; omega, rfl⟩
  case round =>
    obtain ⟨k, hk, rfl, rfl, hlt64, hwr⟩ := hrel
    replace hwr := hwr.symm
    by_cases hlt : k < ds.length
    · have hkI : decide ((k : Int) < (ds.length : Int)) = true := decide_eq_true (by omega)
      have hkN : decide (k < ds.length) = true := decide_eq_true hlt
      have hk0 : (0 : Int) ≤ (k : Int) := by omega
      have hkl : (k : Int) < (ds.length : Int) := by omega
      obtain ⟨hdk, hdb⟩ := hdm.out k hlt
      obtain ⟨xa, xc, hx, _⟩ := hHg.out k _ hdk
      obtain ⟨bl, ol, cl, ea, fa⟩ := hr0.out.cells (by omega)
      simp only [Value.slice.injEq, true_and] at ea
      obtain ⟨rfl, ea2⟩ := ea
      replace ea2 := Lib.hid ea2
      have ck := fa _ _ hx
      rw [hwr] at ck
      have hpk := hpt.out k hlt
      have hmn := hpm.out (k + 1)
      have hB : baseL R (ds.getD k 0) = (R.line (ds.getD k 0)).hist.length + 1 := rfl
      generalize ds.getD k 0 = d at *
      obtain ⟨b, hb⟩ : ∃ b, b = baseL R d := ⟨_, rfl⟩
      rw [← hb] at hpk hB hdb
      generalize (R.line d).hist.length = hlen at *
      generalize hP : prodL R (ds.take k) = P at *
      have hmul : Calls Try.prog 50 #[.int .u64 (P : Int), .int .u64 ((hlen : Int) + 1)] wr fun e w' => e = .returned (.tuple #[.int .u64 ((P * b / 18446744073709551616 : Nat) : Int), .int .u64 ((P * b % 18446744073709551616 : Nat) : Int)]) ∧ w' = wr := by
        have := Try.bits_Mul64 P b hlt64 (by omega) wr
        rw [show ((b : Nat) : Int) = (hlen : Int) + 1 by omega] at this
        exact this
      have hhb : hlen ≤ 100000 := by omega
      have hcase : (P * b < 18446744073709551616 ∧ P * b / 18446744073709551616 = 0 ∧ P * b % 18446744073709551616 = P * b) ∨ (18446744073709551616 ≤ P * b ∧ 0 < P * b / 18446744073709551616) := by
        generalize P * b = X
        omega
      obtain ⟨hi, hhi⟩ : ∃ hi, hi = P * b / 18446744073709551616 := ⟨_, rfl⟩
      obtain ⟨lo, hlo⟩ : ∃ lo, lo = P * b % 18446744073709551616 := ⟨_, rfl⟩
      rw [← hhi, ← hlo] at hmul hcase
      replace hhi := Lib.hid hhi
      replace hlo := Lib.hid hlo
      replace hB := Lib.hid hB
      replace hlt64 := Lib.hid hlt64
      replace hmul := Lib.hid hmul
      replace hpk := Lib.hid hpk
      replace hmn := Lib.hid hmn
      replace hb := Lib.hid hb
      replace hdk := Lib.hid hdk
      clear fa hx
      rcases hcase with ⟨h1, h2, h3⟩ | ⟨h1, h2⟩
      · have g1 : ((hi : Int) == 0) = true := beq_iff_eq.2 (by omega)
        have g2 : decide ((hi : Int) = 0) = true := decide_eq_true (by omega)
        have hnew : prodL R (ds.take (k + 1)) = lo := by rw [hpk.out, h3]
        have hlo2 : lo < 18446744073709551616 := by omega
        replace hnew := Lib.hid hnew
        replace h1 := Lib.hid h1
        replace h3 := Lib.hid h3
        subst h2
        go_wp2_with (refine hmul.out.mono ?_; rintro e w' ⟨rfl, rfl⟩)
        refine ⟨⟨k + 1, by omega, by go_num, by rw [hnew.out], by rw [hnew.out]; exact hlo2, hwr.symm⟩, by simp [intOf]; omega⟩
      · have g1 : ((hi : Int) == 0) = false := beq_eq_false_iff_ne.2 (by omega)
        have hx := Lib.hid (hfin0.out.2 (by have := hmn.out; rw [hpk.out] at this; omega))
        rw [hwr] at hx
        replace h1 := Lib.hid h1
        have h2' : ¬ ((hi : Int) = 0) := by omega
        go_wp2_with (refine hmul.out.mono ?_; rintro e w' ⟨rfl, rfl⟩)
        first | exact hx.out | (go_ret; exact hx.out)
    · obtain rfl : k = ds.length := by omega
      have hkI : decide ((ds.length : Int) < (ds.length : Int)) = false := decide_eq_false (by omega)
      have hkN : decide (ds.length < ds.length) = false := decide_eq_false (by omega)
      rw [List.take_length] at hlt64 ⊢
      have hx := Lib.hid (hfin0.out.1 hlt64)
      rw [hwr] at hx
      go_wp2_with fail
      exact hx.out
set_option maxHeartbeats 1000000 in
theorem ccount_any (h : DevSt w F o L T R) : Calls Try.prog 12 #[.pointer (some ⟨L.g, 0, none⟩)] w (TotPost w (cntV R)) := by
  generalize hpost : TotPost w (cntV R) = post
  have hex := Lib.hid (examine_any h)
  have htot := Lib.hid (fun (wx : World) (pv lv hv : Value) (hs : SetSt wx R pv lv hv) => total_any h.ok hs)
  have hpp := prodL_pos R (dirtyL R)
  have hfin : ∀ w', Below w.heap.size w w' → post (.returned (.tuple #[.int .u64 (((cntV R).1 : Nat) : Int), .bool (cntV R).2])) w' := fun w' hb => by rw [← hpost]; exact ⟨rfl, hb⟩
  replace hfin := Lib.hid hfin
  clear h hpost
  go_enter Try.func12, Try.ntmps12
  go_wp2_with fail
  refine hex.out.mono ?_
  rintro e w1 ⟨pv, lv, hv, rfl, hs, hB⟩
  have ht := htot.out w1 pv lv hv hs
  unfold totV at ht
  have hf := hfin.out
  unfold cntV at hf
  generalize hP : prodL R (dirtyL R) = P at *
  by_cases h1 : P < 18446744073709551616
  · rw [if_pos h1] at ht
    replace ht := Lib.hid ht
    by_cases h2 : P ≤ 4611686018427387904
    · rw [if_pos h2] at hf
      replace hf := Lib.hid hf
      have g1 : decide ((4611686018427387904 : Int) < (P : Int)) = false := decide_eq_false (by omega)
      have g2 : decide (4611686018427387904 < P) = false := decide_eq_false (by omega)
      go_wp2_with (refine ht.out.mono ?_; rintro e w2 ⟨rfl, hB2⟩)
      first | exact hf.out _ (hB.trans (hB2.mono hB.size)) | (go_ret2; exact hf.out _ (hB.trans (hB2.mono hB.size)))
    · rw [if_neg h2] at hf
      replace hf := Lib.hid hf
      have g1 : decide ((4611686018427387904 : Int) < (P : Int)) = true := decide_eq_true (by omega)
      have g2 : decide (4611686018427387904 < P) = true := decide_eq_true (by omega)
      go_wp2_with (refine ht.out.mono ?_; rintro e w2 ⟨rfl, hB2⟩)
      first | exact hf.out _ (hB.trans (hB2.mono hB.size)) | (go_ret2; exact hf.out _ (hB.trans (hB2.mono hB.size)))
  · rw [if_neg h1] at ht
    rw [if_neg (by omega)] at hf
    replace ht := Lib.hid ht
    replace hf := Lib.hid hf
    go_wp2_with (refine ht.out.mono ?_; rintro e w2 ⟨rfl, hB2⟩)
    first | exact hf.out _ (hB.trans (hB2.mono hB.size)) | (go_ret2; exact hf.out _ (hB.trans (hB2.mono hB.size)))
end Go.Proofs.Ytjmdibgncaljaaa.Dev

/-! crashset: the digits of a combination. -/
namespace Go.Proofs.Ytjmdibgncaljaaa.Dev
open Go.RowKit Go.Maps
variable {w : World} {F : Own} {o T : Nat} {R : Dv} {L : Lay}

/-- The digits of n in these bases, the last one first; and what is left of n. -/
def restR (R : Dv) : List Nat → Nat → Nat
  | [], n => n
  | l :: r, n => restR R r n / baseL R l
def digR (R : Dv) : List Nat → Nat → List Nat
  | [], _ => []
  | l :: r, n => restR R r n % baseL R l :: digR R r n
theorem digR_len (R : Dv) : ∀ (ds : List Nat) (n : Nat), (digR R ds n).length = ds.length
  | [], _ => rfl
  | l :: r, n => by rw [digR, List.length_cons, digR_len R r n, List.length_cons]
theorem digR_le (R : Dv) : ∀ (ds : List Nat) (n i : Nat) (l : Nat), ds[i]? = some l → (digR R ds n).getD i 0 ≤ (R.line l).hist.length
  | [], _, _, _, h => by simp at h
  | l :: r, n, 0, l', h => by
    simp at h; subst h
    have := Nat.mod_lt (restR R r n) (show 0 < baseL R l from Nat.succ_pos _)
    show restR R r n % baseL R l ≤ _
    unfold baseL at this ⊢; omega
  | l :: r, n, i + 1, l', h => digR_le R r n i l' (by simpa using h)
/-- The state of the loop: the digits from place k on are laid. -/
def digTo (R : Dv) (ds : List Nat) (n k : Nat) : List Nat := List.replicate k 0 ++ digR R (ds.drop k) n
theorem digTo_len (R : Dv) (ds : List Nat) (n k : Nat) (h : k ≤ ds.length) : (digTo R ds n k).length = ds.length := by
  unfold digTo; rw [List.length_append, List.length_replicate, digR_len, List.length_drop]; omega
theorem drop_cons (ds : List Nat) (k : Nat) (h : k < ds.length) : ds.drop k = ds.getD k 0 :: ds.drop (k + 1) := by
  rw [List.drop_eq_getElem_cons h, List.getD_eq_getElem?_getD, List.getElem?_eq_getElem h]; rfl
theorem digTo_step (R : Dv) (ds : List Nat) (n k : Nat) (h : k < ds.length) : (digTo R ds n (k + 1)).set k (restR R (ds.drop (k + 1)) n % baseL R (ds.getD k 0)) = digTo R ds n k := by
  unfold digTo
  rw [List.replicate_succ', List.append_assoc, List.set_append_right _ _ (by simp), List.length_replicate, Nat.sub_self, drop_cons ds k h]
  rfl
theorem rest_step (R : Dv) (ds : List Nat) (n k : Nat) (h : k < ds.length) : restR R (ds.drop k) n = restR R (ds.drop (k + 1)) n / baseL R (ds.getD k 0) := by
  rw [drop_cons ds k h]; rfl
theorem rest_le (R : Dv) : ∀ (ds : List Nat) (n : Nat), restR R ds n ≤ n
  | [], _ => Nat.le_refl _
  | l :: r, n => Nat.le_trans (Nat.div_le_self _ _) (rest_le R r n)
theorem nats_set (l : List Nat) (i v : Nat) : nats (l.set i v) = (nats l).set i (.int .i64 (v : Int)) := by unfold nats; rw [List.map_set]
/-- What split returns. -/
def SplitPost (w : World) (R : Dv) (n : Nat) (e : Ending) (w' : World) : Prop :=
  ∃ b, e = .returned (.tuple #[.slice (some ⟨b, 0, none⟩) (dirtyL R).length (dirtyL R).length, .bool (decide (restR R (dirtyL R) n = 0))]) ∧ Has w' b (nats (digR R (dirtyL R) n)) 3 ∧ Below w.heap.size w w' ∧ w.heap.size ≤ b
end Go.Proofs.Ytjmdibgncaljaaa.Dev
