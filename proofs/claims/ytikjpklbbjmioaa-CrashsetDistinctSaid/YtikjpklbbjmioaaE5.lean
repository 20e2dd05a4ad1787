/- The reference's device: persist. -/
import Derived.Test.YtikjpklbbjmioaaE4
import Derived.Deep.DeepCutAuto
namespace Go.Proofs.Ytikjpklbbjmioaa
open Go.RowKit Go.Maps
variable {w : World} {F : Own} {o h T : Nat} {R : Dv}

theorem rd_zero (w : World) (xa : Option Addr) (c : Nat) : Rd w (.slice xa 0 c) 0 [] := ⟨xa, c, rfl, .inl ⟨rfl, rfl⟩⟩
/-- The line's block after persist: base, history, done. -/
def lineSet (cs : List Value) (i : Nat) (ws : List Nat) (v : Value) (d : Int) : List Value :=
  ((((((((((cs.set (i * 10) (.int .u64 ((wat ws 0 : Nat) : Int))).set (i * 10 + 1) (.int .u64 ((wat ws 1 : Nat) : Int))).set (i * 10 + 2) (.int .u64 ((wat ws 2 : Nat) : Int))).set (i * 10 + 3) (.int .u64 ((wat ws 3 : Nat) : Int))).set (i * 10 + 4) (.int .u64 ((wat ws 4 : Nat) : Int))).set (i * 10 + 5) (.int .u64 ((wat ws 5 : Nat) : Int))).set (i * 10 + 6) (.int .u64 ((wat ws 6 : Nat) : Int))).set (i * 10 + 7) (.int .u64 ((wat ws 7 : Nat) : Int))).set (i * 10 + 8) v).set (i * 10 + 9) (.int .i64 d))
theorem lineSet_far (cs : List Value) (i : Nat) (ws : List Nat) (v : Value) (d : Int) (q : Nat) (h : q < i * 10 ∨ i * 10 + 10 ≤ q) : (lineSet cs i ws v d)[q]? = cs[q]? := by
  unfold lineSet
  rw [List.getElem?_set_ne (by omega), List.getElem?_set_ne (by omega), List.getElem?_set_ne (by omega), List.getElem?_set_ne (by omega), List.getElem?_set_ne (by omega), List.getElem?_set_ne (by omega), List.getElem?_set_ne (by omega), List.getElem?_set_ne (by omega), List.getElem?_set_ne (by omega), List.getElem?_set_ne (by omega)]
theorem lineSet_base (cs : List Value) (i : Nat) (ws : List Nat) (v : Value) (d : Int) (hl : i * 10 + 10 ≤ cs.length) (q : Nat) (hq : q < 8) : (lineSet cs i ws v d)[i * 10 + q]? = some (.int .u64 ((wat ws q : Nat) : Int)) := by
  unfold lineSet
  match q, hq with
  | 0, _ => rw [List.getElem?_set_ne (by omega), List.getElem?_set_ne (by omega), List.getElem?_set_ne (by omega), List.getElem?_set_ne (by omega), List.getElem?_set_ne (by omega), List.getElem?_set_ne (by omega), List.getElem?_set_ne (by omega), List.getElem?_set_ne (by omega), List.getElem?_set_ne (by omega)]; exact List.getElem?_set_self (by omega)
  | 1, _ => rw [List.getElem?_set_ne (by omega), List.getElem?_set_ne (by omega), List.getElem?_set_ne (by omega), List.getElem?_set_ne (by omega), List.getElem?_set_ne (by omega), List.getElem?_set_ne (by omega), List.getElem?_set_ne (by omega), List.getElem?_set_ne (by omega)]; exact List.getElem?_set_self (by simp; omega)
  | 2, _ => rw [List.getElem?_set_ne (by omega), List.getElem?_set_ne (by omega), List.getElem?_set_ne (by omega), List.getElem?_set_ne (by omega), List.getElem?_set_ne (by omega), List.getElem?_set_ne (by omega), List.getElem?_set_ne (by omega)]; exact List.getElem?_set_self (by simp; omega)
  | 3, _ => rw [List.getElem?_set_ne (by omega), List.getElem?_set_ne (by omega), List.getElem?_set_ne (by omega), List.getElem?_set_ne (by omega), List.getElem?_set_ne (by omega), List.getElem?_set_ne (by omega)]; exact List.getElem?_set_self (by simp; omega)
  | 4, _ => rw [List.getElem?_set_ne (by omega), List.getElem?_set_ne (by omega), List.getElem?_set_ne (by omega), List.getElem?_set_ne (by omega), List.getElem?_set_ne (by omega)]; exact List.getElem?_set_self (by simp; omega)
  | 5, _ => rw [List.getElem?_set_ne (by omega), List.getElem?_set_ne (by omega), List.getElem?_set_ne (by omega), List.getElem?_set_ne (by omega)]; exact List.getElem?_set_self (by simp; omega)
  | 6, _ => rw [List.getElem?_set_ne (by omega), List.getElem?_set_ne (by omega), List.getElem?_set_ne (by omega)]; exact List.getElem?_set_self (by simp; omega)
  | 7, _ => rw [List.getElem?_set_ne (by omega), List.getElem?_set_ne (by omega)]; exact List.getElem?_set_self (by simp; omega)
theorem lineSet_8 (cs : List Value) (i : Nat) (ws : List Nat) (v : Value) (d : Int) (hl : i * 10 + 10 ≤ cs.length) : (lineSet cs i ws v d)[i * 10 + 8]? = some v := by
  unfold lineSet; rw [List.getElem?_set_ne (by omega)]; exact List.getElem?_set_self (by simp; omega)
theorem lineSet_9 (cs : List Value) (i : Nat) (ws : List Nat) (v : Value) (d : Int) (hl : i * 10 + 10 ≤ cs.length) : (lineSet cs i ws v d)[i * 10 + 9]? = some (.int .i64 d) := by
  unfold lineSet; exact List.getElem?_set_self (by simp; omega)
theorem lineSet_len (cs : List Value) (i : Nat) (ws : List Nat) (v : Value) (d : Int) : (lineSet cs i ws v d).length = cs.length := by simp [lineSet]
/-- The words are stored into a line's base. -/
def setBase (w : World) (lb i : Nat) (ws : List Nat) : World :=
  ((((((((w.setCell ⟨lb, i * 10, none⟩ (.int .u64 ((wat ws 0 : Nat) : Int))).setCell ⟨lb, i * 10 + 1, none⟩ (.int .u64 ((wat ws 1 : Nat) : Int))).setCell ⟨lb, i * 10 + 2, none⟩ (.int .u64 ((wat ws 2 : Nat) : Int))).setCell ⟨lb, i * 10 + 3, none⟩ (.int .u64 ((wat ws 3 : Nat) : Int))).setCell ⟨lb, i * 10 + 4, none⟩ (.int .u64 ((wat ws 4 : Nat) : Int))).setCell ⟨lb, i * 10 + 5, none⟩ (.int .u64 ((wat ws 5 : Nat) : Int))).setCell ⟨lb, i * 10 + 6, none⟩ (.int .u64 ((wat ws 6 : Nat) : Int))).setCell ⟨lb, i * 10 + 7, none⟩ (.int .u64 ((wat ws 7 : Nat) : Int)))
def baseSet (cs : List Value) (i : Nat) (ws : List Nat) : List Value :=
  ((((((((cs.set (i * 10) (.int .u64 ((wat ws 0 : Nat) : Int))).set (i * 10 + 1) (.int .u64 ((wat ws 1 : Nat) : Int))).set (i * 10 + 2) (.int .u64 ((wat ws 2 : Nat) : Int))).set (i * 10 + 3) (.int .u64 ((wat ws 3 : Nat) : Int))).set (i * 10 + 4) (.int .u64 ((wat ws 4 : Nat) : Int))).set (i * 10 + 5) (.int .u64 ((wat ws 5 : Nat) : Int))).set (i * 10 + 6) (.int .u64 ((wat ws 6 : Nat) : Int))).set (i * 10 + 7) (.int .u64 ((wat ws 7 : Nat) : Int)))
theorem setBase_own {w : World} {lb n lc i : Nat} {cs : List Value} {ws : List Nat} (h : w.ownsRow 0 122 10 (.slice (some ⟨lb, 0, none⟩) n lc) n cs) : (setBase w lb i ws).ownsRow 0 122 10 (.slice (some ⟨lb, 0, none⟩) n lc) n (baseSet cs i ws) :=
  ((((((((h.stored _ _).1.stored _ _).1.stored _ _).1.stored _ _).1.stored _ _).1.stored _ _).1.stored _ _).1.stored _ _).1
theorem setBase_only (w : World) (lb i : Nat) (ws : List Nat) : Only (fun k => k = lb) w (setBase w lb i ws) :=
  (((((((Only.setAt w lb _ _).trans (Only.setAt _ lb _ _)).trans (Only.setAt _ lb _ _)).trans (Only.setAt _ lb _ _)).trans (Only.setAt _ lb _ _)).trans (Only.setAt _ lb _ _)).trans (Only.setAt _ lb _ _)).trans (Only.setAt _ lb _ _)
theorem baseSet_89 (cs : List Value) (i : Nat) (ws : List Nat) (q : Nat) (h : q = 8 ∨ q = 9) : (baseSet cs i ws)[i * 10 + q]? = cs[i * 10 + q]? := by
  unfold baseSet
  rw [List.getElem?_set_ne (by omega), List.getElem?_set_ne (by omega), List.getElem?_set_ne (by omega), List.getElem?_set_ne (by omega), List.getElem?_set_ne (by omega), List.getElem?_set_ne (by omega), List.getElem?_set_ne (by omega), List.getElem?_set_ne (by omega)]
theorem setBase_size (w : World) (lb i : Nat) (ws : List Nat) : (setBase w lb i ws).heap.size = w.heap.size := by simp [setBase]

/-- What the reference's persist leaves. -/
def RPPost (w : World) (F : Own) (o h T : Nat) (R : Dv) (e : Ending) (w' : World) : Prop :=
  ∃ F', e = .returned (.tuple #[]) ∧ RefSt w' F' o h T R ∧ Ext w F F' ∧ Only (fun k => F k = some (o, 1, 0)) w w'
theorem RPPost.step {w w' : World} {F : Own} {o h T : Nat} {R : Dv} {e : Ending} (hp : RPPost w F o h T R e w') : RPost w F o h T R (.tuple #[]) e w' := by
  obtain ⟨F', a, b, c, d⟩ := hp
  exact ⟨F', a, b, c, d.mono fun k _ s => ⟨_, s⟩⟩
set_option maxHeartbeats 8000000 in
set_option maxRecDepth 100000 in
theorem rpersist_any (hr : RefSt w F o h T R) {i k : Nat} (hi : i < R.lines.length) (hk : k ≤ (R.line i).hist.length) :
    Calls Try.prog 108 #[.pointer (some ⟨h, 0, none⟩), .int .i64 (i : Int), .int .i64 (k : Int)] w (RPPost w F o h T (R.setLine i (persistL (R.line i) k))) := by
  generalize hpost : RPPost w F o h T (R.setLine i (persistL (R.line i) k)) = post
  replace hpost := Lib.hid hpost
  have hn2 := hr.ok.n2
  have hok := hr.ok.ln _ hi
  have hhl := hok.hl
  have ht100 := hr.ok.t
  have hpok := persist_ok hr.ok hi hk
  obtain ⟨lb, lc, ns, h1, h2, h3, h4⟩ := hr.ex
  have c := h1.cell (refCells_lines lb lc ns R)
  obtain ⟨va, vc, ⟨c0, c1, c2, c3, c4, c5, c6, c7, c8, c9⟩, hrd⟩ := h2.cells hi
  obtain ⟨cs, hv', hown, hlin⟩ := h2
  have hcl := hown.1
  have hlbl := ownsRow_lt hown (k := lb) rfl
  have hcap := hrd.2.2 va _ vc rfl
  have hrd0 := hrd.1
  have hiI : (i : Int) < (R.lines.length : Int) := by omega
  have hwd := fun w' (hB : Below w.heap.size w w') => words_any w' (R.line i) k va vc hok.b hk (by omega) (hrd0.kept hB) (fun p hp => by obtain ⟨q1, q2, q3⟩ := hok.h p hp; omega) ((R.line i).done : Int)
  replace hwd := Lib.hid hwd
  have hkI : (k : Int) ≤ 100000 := by omega
  have hkh : (k : Int) ≤ ((R.line i).hist.length : Int) := by omega
  have hkc : (k : Int) ≤ (vc : Int) := by omega
  have hdI : ((R.line i).done : Int) ≤ 100000 := by omega
  have hfin : ∀ (w2 w4 : World) (sa : Option Addr) (cap : Nat), Below w.heap.size w w2 → w2.ownsRow 0 122 10 (.slice (some ⟨lb, 0, none⟩) R.lines.length lc) R.lines.length cs →
      Below w2.heap.size (setBase w2 lb i (wordsL (R.line i) k)) w4 → w4.ownsRow 0 165 2 (.slice sa ((R.line i).hist.length - k) cap) ((R.line i).hist.length - k) (wcells ((R.line i).hist.drop k)) →
      (∀ q, Value.ownBlock (.slice sa ((R.line i).hist.length - k) cap) = some q → w2.heap.size ≤ q) →
      post (.returned (.tuple #[])) ((w4.setCell ⟨lb, i * 10 + 8, none⟩ (.slice sa ((R.line i).hist.length - k) cap)).setCell ⟨lb, i * 10 + 9, none⟩ (.int .i64 (((R.line i).done : Int) + (k : Int)))) := by
    intro w2 w4 sa cap hB2 hown2 hB4 hown4 hfr
    have hs2 := hB2.size
    have hO2 : Only (fun _ => False) w w2 := ⟨hB2.os, hB2.tape, hB2.output, hB2.size, fun q hq _ => hB2.block q hq⟩
    have hO4 : Only (fun q => q = lb) w w4 := ((hO2.mono (fun _ _ s => s.elim)).trans (setBase_only w2 lb i _)).trans' (Only.of_below hB4) (fun q hq s => by omega)
    have hl4 := ownsRow_only (setBase_own (i := i) (ws := wordsL (R.line i) k) hown2) (Only.of_below hB4) (by rintro q hq; cases hq; exact Nat.not_le.2 (Nat.lt_of_lt_of_le hlbl hs2))
    have hl5 := ((hl4.stored (i * 10 + 8) (.slice sa ((R.line i).hist.length - k) cap)).1.stored (i * 10 + 9) (.int .i64 (((R.line i).done : Int) + (k : Int)))).1
    have hO5 := Only.setCell (S := fun q => q = lb) (Only.setCell (S := fun q => q = lb) hO4 (a := ⟨lb, i * 10 + 8, none⟩) (fun _ => rfl) (.slice sa ((R.line i).hist.length - k) cap)) (a := ⟨lb, i * 10 + 9, none⟩) (fun _ => rfl) (.int .i64 (((R.line i).done : Int) + (k : Int)))
    have hrd5 : Rd ((w4.setCell ⟨lb, i * 10 + 8, none⟩ (.slice sa ((R.line i).hist.length - k) cap)).setCell ⟨lb, i * 10 + 9, none⟩ (.int .i64 (((R.line i).done : Int) + (k : Int)))) (.slice sa ((R.line i).hist.length - k) cap) ((R.line i).hist.length - k) (wcells ((R.line i).hist.drop k)) :=
      ((Rd.of_own hown4).only (Only.setAt w4 lb _ _) (by rintro q hq rfl; have := hfr _ hq; omega)).only (Only.setAt _ lb _ _) (by rintro q hq rfl; have := hfr _ hq; omega)
    have hF : ∃ F', Ext w F F' ∧ ∀ q, Value.ownBlock (.slice sa ((R.line i).hist.length - k) cap) = some q → F' q = some (o, 2, i) := by
      cases hq : Value.ownBlock (.slice sa ((R.line i).hist.length - k) cap) with
      | none => exact ⟨F, Ext.refl _ _, fun q e => by cases e⟩
      | some b => exact ⟨F.put b (o, 2, i), (Ext.refl w F).put (by have := hfr b hq; omega) _, fun q e => by cases e; exact Own.put_at _ _ _⟩
    obtain ⟨F', hx, hrole⟩ := hF
    have hlin5 : RLinSt ((w4.setCell ⟨lb, i * 10 + 8, none⟩ (.slice sa ((R.line i).hist.length - k) cap)).setCell ⟨lb, i * 10 + 9, none⟩ (.int .i64 (((R.line i).done : Int) + (k : Int)))) F' o lb lc (R.setLine i (persistL (R.line i) k)) := by
      refine RLinSt.one (cs' := lineSet cs i (wordsL (R.line i) k) (.slice sa ((R.line i).hist.length - k) cap) (((R.line i).done : Int) + (k : Int))) (v := .slice sa ((R.line i).hist.length - k) cap) (hv := hv') (cs := cs) hi hlin hl5 (lineSet_far cs i _ _ _) (lineSet_base cs i _ _ _ (by omega)) (lineSet_8 cs i _ _ _ (by omega)) (lineSet_9 cs i _ _ _ (by omega)) ?_ hO5 hx ?_
      · refine ⟨?_, fun _ q e => hrole q e, own_cap hown4⟩
        show Rd _ _ ((R.line i).hist.drop k).length (wcells ((R.line i).hist.drop k))
        rw [List.length_drop]; exact hrd5
      · rintro q j rfl _ e; rw [h3] at e; cases e
    rw [← hpost.out]
    exact ⟨F', rfl, hr.line hi hpok h1 h3 h4 hO5 hx hlbl hlin5, hx, hO5.mono (by rintro q _ rfl; exact h3)⟩
  replace hfin := Lib.hid hfin
  replace hcl := Lib.hid hcl
  by_cases hkn : k < (R.line i).hist.length
  · obtain ⟨b, off, hva⟩ : ∃ b off, va = some ⟨b, off, none⟩ := by
      obtain ⟨b, off, cp, e, _⟩ := hrd0.cells (by omega)
      simp only [Value.slice.injEq] at e; exact ⟨b, off, e.1⟩
    subst hva
    have hvk : ¬ vc = k := by omega
    replace hcap := Lib.hid hcap
    have hne : ∀ q, Value.ownBlock (.slice (some ⟨b, off, none⟩) (R.line i).hist.length vc) = some q → ¬ q = lb := by
      intro q hq
      exact Own.ne (hrd.2.1 (by intro e; have := congrArg List.length e; rw [wcells_len] at this; simp at this; omega) q hq) h3 (by simp)
    have htail : ∀ wx : World, Rd wx (.slice (some ⟨b, off, none⟩) (R.line i).hist.length vc) (R.line i).hist.length (wcells (R.line i).hist) → Rd wx (.slice (some ⟨b, off + k * 2, none⟩) ((R.line i).hist.length - k) (vc - k)) ((R.line i).hist.length - k) (wcells ((R.line i).hist.drop k)) := by
      intro wx hx
      obtain ⟨b', o', cp, e, hc⟩ := hx.cells (by omega)
      simp only [Value.slice.injEq, Option.some.injEq, Addr.mk.injEq, true_and, and_true] at e
      obtain ⟨⟨rfl, rfl⟩, rfl⟩ := e
      refine ⟨_, _, rfl, .inr ⟨b, off + k * 2, rfl, fun j u hj => ?_⟩⟩
      rw [← wcells_drop, List.getElem?_drop] at hj
      have := hc _ u hj
      rw [← Nat.add_assoc] at this; exact this
    replace htail := Lib.hid htail
    go_enter Try.func108, Try.ntmps108
    go_wp2_with fail
    refine (hwd.out _ (Below.refl _ _)).mono ?_
    rintro e w2 ⟨rfl, hB2⟩
    have hown2 := ownsRow_only hown (Only.of_below hB2) (by intro k hk; cases hk; exact Nat.not_le.2 hlbl)
    have b0 := bcell2 hB2 c0
    have b1 := bcell2 hB2 c1
    have b2 := bcell2 hB2 c2
    have b3 := bcell2 hB2 c3
    have b4 := bcell2 hB2 c4
    have b5 := bcell2 hB2 c5
    have b6 := bcell2 hB2 c6
    have b7 := bcell2 hB2 c7
    have b8 := bcell2 hB2 c8
    have b9 := bcell2 hB2 c9
    have f0 := hown2.frozenAt (i * 10)
    have f1 := hown2.frozenAt (i * 10 + 1)
    have f2 := hown2.frozenAt (i * 10 + 2)
    have f3 := hown2.frozenAt (i * 10 + 3)
    have f4 := hown2.frozenAt (i * 10 + 4)
    have f5 := hown2.frozenAt (i * 10 + 5)
    have f6 := hown2.frozenAt (i * 10 + 6)
    have f7 := hown2.frozenAt (i * 10 + 7)
    unfold aggW
    clear c0 c1 c2 c3 c4 c5 c6 c7 c8 c9 c hown hlin h1 h4 hr
    go_upto_region 2 with fail
    obtain ⟨wb, hwb⟩ : ∃ wb, wb = setBase w2 lb i (wordsL (R.line i) k) := ⟨_, rfl⟩
    have hob := setBase_own (i := i) (ws := wordsL (R.line i) k) hown2
    have hOb := setBase_only w2 lb i (wordsL (R.line i) k)
    have hsb := setBase_size w2 lb i (wordsL (R.line i) k)
    have hfi := hfin.out w2
    rw [← hwb] at hob hOb hsb hfi
    have d8 := hob.cellAt (i * 10 + 8) (by omega)
    have d9 := hob.cellAt (i * 10 + 9) (by omega)
    rw [baseSet_89 _ _ _ _ (.inl rfl)] at d8
    rw [baseSet_89 _ _ _ _ (.inr rfl)] at d9
    rw [← hown2.cellAt (i * 10 + 8) (by omega), b8] at d8
    rw [← hown2.cellAt (i * 10 + 9) (by omega), b9] at d9
    have g8 := hob.frozenAt (i * 10 + 8)
    have g9 := hob.frozenAt (i * 10 + 9)
    have hs2 := hB2.size
    have hsb2 : wb.heap.size ≤ w2.heap.size := Nat.le_of_eq hsb
    have hsb3 : w2.heap.size ≤ wb.heap.size := Nat.le_of_eq hsb.symm
    unfold setBase at hwb
    rw [← hwb]
    replace hwb := Lib.hid hwb
    replace hfi := Lib.hid hfi
    clear hsb b0 b1 b2 b3 b4 b5 b6 b7 b8 b9 f0 f1 f2 f3 f4 f5 f6 f7 hfin
    have hrdb := (hrd0.kept hB2).only hOb hne
    have hlb4 : lb < wb.heap.size := Nat.lt_of_lt_of_le hlbl (Nat.le_trans hs2 hsb3)
    have hlb5 : lb ≠ wb.heap.size := Nat.ne_of_lt hlb4
    have d8a : (wb.alloc (.cells #[] 165)).cell? ⟨lb, i * 10 + 8, none⟩ = _ := ((Only.refl (fun _ => False) wb).alloc _).cell d8 (fun s => s)
    have hE := own_empty wb 165 2
    have hrdA : Rd (wb.alloc (.cells #[] 165)) (.slice (some ⟨b, off + k * 2, none⟩) ((R.line i).hist.length - k) (vc - k)) ((R.line i).hist.length - k) (wcells ((R.line i).hist.drop k)) := (htail.out wb hrdb).kept ((Below.refl _ _).alloc (Nat.le_refl _) _)
    go_wp2_with (at_builtin; refine wpList_appAll rfl (.tmp 22) (.tmp 28) 120 rfl 165 (.agg #[.int .u64 0, .int .u64 0]) 2 16 Try.underlying120 infoRW rfl (by decide) (by decide) _ 0 0 (Nat.le_refl _) [] hE rfl _ ((R.line i).hist.length - k) _ (wcells ((R.line i).hist.drop k)) rfl hrdA (by simp [wcells_len, List.length_drop]) (by first | exact wcells_one _ | simp) (by omega) ?_)
    intro sa cap w4 hcap4 hown4 only4 fresh4
    have hB4 : Below wb.heap.size wb w4 := ((Below.refl wb.heap.size wb).alloc (Nat.le_refl _) _).trans (only4.below (by simp) (fun q hq e => by simp [Value.ownBlock] at e; omega))
    have hfr4 : ∀ q, Value.ownBlock (.slice sa ((R.line i).hist.length - k) cap) = some q → w2.heap.size ≤ q := by
      intro q hq
      rcases fresh4 q hq with h5 | h5
      · first | omega | (simp [Value.ownBlock] at h5; omega)
      · first | omega | (simp at h5; omega)
    have hfx := hfi.out w4 sa cap hB2 hown2 (hB4.mono hsb3) hown4 hfr4
    have e8 := bcell2 hB4 d8
    have e9 := bcell2 hB4 d9
    have i8 : w4.frozen? ⟨lb, i * 10 + 8, none⟩ = false := by rw [hB4.frozen (p := ⟨lb, i * 10 + 8, none⟩) hlb4]; exact g8
    have i9 : w4.frozen? ⟨lb, i * 10 + 9, none⟩ = false := by rw [hB4.frozen (p := ⟨lb, i * 10 + 9, none⟩) hlb4]; exact g9
    replace hfx := Lib.hid hfx
    clear hB4 hfr4 hown4 only4 fresh4 hE hrdA hrdb hB2 hown2 hob hOb d8 d9 g8 g9
    go_wp2_with fail
    first | exact hfx.out | exact bodyPost_end (results_none rfl _ _ _) rfl hfx.out
  · obtain rfl : k = (R.line i).hist.length := by omega
    have hd0 : (R.line i).hist.drop (R.line i).hist.length = [] := List.drop_eq_nil_of_le (Nat.le_refl _)
    have hfin2 : ∀ (w2 w4 : World) (sa : Option Addr) (cap : Nat), Below w.heap.size w w2 → w2.ownsRow 0 122 10 (.slice (some ⟨lb, 0, none⟩) R.lines.length lc) R.lines.length cs →
        Below w2.heap.size (setBase w2 lb i (wordsL (R.line i) (R.line i).hist.length)) w4 → w4.ownsRow 0 165 2 (.slice sa 0 cap) 0 [] → (∀ q, Value.ownBlock (.slice sa 0 cap) = some q → w2.heap.size ≤ q) →
        post (.returned (.tuple #[])) ((w4.setCell ⟨lb, i * 10 + 8, none⟩ (.slice sa 0 cap)).setCell ⟨lb, i * 10 + 9, none⟩ (.int .i64 (((R.line i).done : Int) + ((R.line i).hist.length : Int)))) := by
      intro w2 w4 sa cap q1 q2 q3 q4 q5
      have := hfin.out w2 w4 sa cap q1 q2 q3 (by rw [Nat.sub_self, hd0]; exact q4) (by rw [Nat.sub_self]; exact q5)
      rw [Nat.sub_self] at this; exact this
    replace hfin := Lib.hid hfin2
    clear hfin2
    replace hd0 := Lib.hid hd0
    clear hkn hrd hrd0 hpok
    generalize hhn : (R.line i).hist.length = hn at *
    replace hhn := Lib.hid hhn
    by_cases hvk : vc = hn
    · subst hvk
      replace hcap := Lib.hid hcap
      go_enter Try.func108, Try.ntmps108
      go_wp2_with fail
      refine (hwd.out _ (Below.refl _ _)).mono ?_
      rintro e w2 ⟨rfl, hB2⟩
      have hown2 := ownsRow_only hown (Only.of_below hB2) (by intro k hk; cases hk; exact Nat.not_le.2 hlbl)
      have b0 := bcell2 hB2 c0
      have b1 := bcell2 hB2 c1
      have b2 := bcell2 hB2 c2
      have b3 := bcell2 hB2 c3
      have b4 := bcell2 hB2 c4
      have b5 := bcell2 hB2 c5
      have b6 := bcell2 hB2 c6
      have b7 := bcell2 hB2 c7
      have b8 := bcell2 hB2 c8
      have b9 := bcell2 hB2 c9
      have f0 := hown2.frozenAt (i * 10)
      have f1 := hown2.frozenAt (i * 10 + 1)
      have f2 := hown2.frozenAt (i * 10 + 2)
      have f3 := hown2.frozenAt (i * 10 + 3)
      have f4 := hown2.frozenAt (i * 10 + 4)
      have f5 := hown2.frozenAt (i * 10 + 5)
      have f6 := hown2.frozenAt (i * 10 + 6)
      have f7 := hown2.frozenAt (i * 10 + 7)
      unfold aggW
      clear c0 c1 c2 c3 c4 c5 c6 c7 c8 c9 c hown hlin h1 h4 hr
      go_upto_region 2 with fail
      obtain ⟨wb, hwb⟩ : ∃ wb, wb = setBase w2 lb i (wordsL (R.line i) vc) := ⟨_, rfl⟩
      have hob := setBase_own (i := i) (ws := wordsL (R.line i) vc) hown2
      have hOb := setBase_only w2 lb i (wordsL (R.line i) vc)
      have hsb := setBase_size w2 lb i (wordsL (R.line i) vc)
      have hfi := hfin.out w2
      rw [← hwb] at hob hOb hsb hfi
      have d8 := hob.cellAt (i * 10 + 8) (by omega)
      have d9 := hob.cellAt (i * 10 + 9) (by omega)
      rw [baseSet_89 _ _ _ _ (.inl rfl)] at d8
      rw [baseSet_89 _ _ _ _ (.inr rfl)] at d9
      rw [← hown2.cellAt (i * 10 + 8) (by omega), b8] at d8
      rw [← hown2.cellAt (i * 10 + 9) (by omega), b9] at d9
      have g8 := hob.frozenAt (i * 10 + 8)
      have g9 := hob.frozenAt (i * 10 + 9)
      have hs2 := hB2.size
      have hsb2 : wb.heap.size ≤ w2.heap.size := Nat.le_of_eq hsb
      have hsb3 : w2.heap.size ≤ wb.heap.size := Nat.le_of_eq hsb.symm
      unfold setBase at hwb
      rw [← hwb]
      replace hwb := Lib.hid hwb
      replace hfi := Lib.hid hfi
      clear hsb b0 b1 b2 b3 b4 b5 b6 b7 b8 b9 f0 f1 f2 f3 f4 f5 f6 f7 hfin
      have hlb4 : lb < wb.heap.size := Nat.lt_of_lt_of_le hlbl (Nat.le_trans hs2 hsb3)
      have hlb5 : lb ≠ wb.heap.size := Nat.ne_of_lt hlb4
      have d8a : (wb.alloc (.cells #[] 165)).cell? ⟨lb, i * 10 + 8, none⟩ = _ := ((Only.refl (fun _ => False) wb).alloc _).cell d8 (fun s => s)
      have hE := own_empty wb 165 2
      go_wp2_with (at_builtin; refine wpList_appAll rfl (.tmp 22) (.tmp 28) 120 rfl 165 (.agg #[.int .u64 0, .int .u64 0]) 2 16 Try.underlying120 infoRW rfl (by decide) (by decide) _ 0 0 (Nat.le_refl _) [] hE rfl _ 0 _ [] rfl (rd_zero _ _ _) (by simp) (by simp) (by omega) ?_)
      intro sa cap w4 hown4 only4 fresh4
      have hB4 : Below wb.heap.size wb w4 := ((Below.refl wb.heap.size wb).alloc (Nat.le_refl _) _).trans (only4.below (by simp) (fun q hq e => by simp [Value.ownBlock] at e; omega))
      have hfr4 : ∀ q, Value.ownBlock (.slice sa 0 cap) = some q → w2.heap.size ≤ q := by
        intro q hq
        rcases fresh4 q hq with h5 | h5
        · first | omega | (simp [Value.ownBlock] at h5; omega)
        · first | omega | (simp at h5; omega)
      have hfx := hfi.out w4 sa cap hB2 hown2 (hB4.mono hsb3) hown4 hfr4
      have e8 := bcell2 hB4 d8
      have e9 := bcell2 hB4 d9
      have i8 : w4.frozen? ⟨lb, i * 10 + 8, none⟩ = false := by rw [hB4.frozen (p := ⟨lb, i * 10 + 8, none⟩) hlb4]; exact g8
      have i9 : w4.frozen? ⟨lb, i * 10 + 9, none⟩ = false := by rw [hB4.frozen (p := ⟨lb, i * 10 + 9, none⟩) hlb4]; exact g9
      replace hfx := Lib.hid hfx
      clear hB4 hfr4 hown4 only4 fresh4 hE hB2 hown2 hob hOb d8 d9 g8 g9
      go_wp2_with fail
      first | exact hfx.out | exact bodyPost_end (results_none rfl _ _ _) rfl hfx.out
    · obtain ⟨x, hva⟩ : ∃ x, va = some x := by
        cases hq : va with
        | some x => exact ⟨x, rfl⟩
        | none => have := hcap.2 hq; omega
      subst hva
      replace hcap := Lib.hid hcap
      go_enter Try.func108, Try.ntmps108
      go_wp2_with fail
      refine (hwd.out _ (Below.refl _ _)).mono ?_
      rintro e w2 ⟨rfl, hB2⟩
      have hown2 := ownsRow_only hown (Only.of_below hB2) (by intro k hk; cases hk; exact Nat.not_le.2 hlbl)
      have b0 := bcell2 hB2 c0
      have b1 := bcell2 hB2 c1
      have b2 := bcell2 hB2 c2
      have b3 := bcell2 hB2 c3
      have b4 := bcell2 hB2 c4
      have b5 := bcell2 hB2 c5
      have b6 := bcell2 hB2 c6
      have b7 := bcell2 hB2 c7
      have b8 := bcell2 hB2 c8
      have b9 := bcell2 hB2 c9
      have f0 := hown2.frozenAt (i * 10)
      have f1 := hown2.frozenAt (i * 10 + 1)
      have f2 := hown2.frozenAt (i * 10 + 2)
      have f3 := hown2.frozenAt (i * 10 + 3)
      have f4 := hown2.frozenAt (i * 10 + 4)
      have f5 := hown2.frozenAt (i * 10 + 5)
      have f6 := hown2.frozenAt (i * 10 + 6)
      have f7 := hown2.frozenAt (i * 10 + 7)
      unfold aggW
      clear c0 c1 c2 c3 c4 c5 c6 c7 c8 c9 c hown hlin h1 h4 hr
      go_upto_region 2 with fail
      obtain ⟨wb, hwb⟩ : ∃ wb, wb = setBase w2 lb i (wordsL (R.line i) hn) := ⟨_, rfl⟩
      have hob := setBase_own (i := i) (ws := wordsL (R.line i) hn) hown2
      have hOb := setBase_only w2 lb i (wordsL (R.line i) hn)
      have hsb := setBase_size w2 lb i (wordsL (R.line i) hn)
      have hfi := hfin.out w2
      rw [← hwb] at hob hOb hsb hfi
      have d8 := hob.cellAt (i * 10 + 8) (by omega)
      have d9 := hob.cellAt (i * 10 + 9) (by omega)
      rw [baseSet_89 _ _ _ _ (.inl rfl)] at d8
      rw [baseSet_89 _ _ _ _ (.inr rfl)] at d9
      rw [← hown2.cellAt (i * 10 + 8) (by omega), b8] at d8
      rw [← hown2.cellAt (i * 10 + 9) (by omega), b9] at d9
      have g8 := hob.frozenAt (i * 10 + 8)
      have g9 := hob.frozenAt (i * 10 + 9)
      have hs2 := hB2.size
      have hsb2 : wb.heap.size ≤ w2.heap.size := Nat.le_of_eq hsb
      have hsb3 : w2.heap.size ≤ wb.heap.size := Nat.le_of_eq hsb.symm
      unfold setBase at hwb
      rw [← hwb]
      replace hwb := Lib.hid hwb
      replace hfi := Lib.hid hfi
      clear hsb b0 b1 b2 b3 b4 b5 b6 b7 b8 b9 f0 f1 f2 f3 f4 f5 f6 f7 hfin
      have hlb4 : lb < wb.heap.size := Nat.lt_of_lt_of_le hlbl (Nat.le_trans hs2 hsb3)
      have hlb5 : lb ≠ wb.heap.size := Nat.ne_of_lt hlb4
      have d8a : (wb.alloc (.cells #[] 165)).cell? ⟨lb, i * 10 + 8, none⟩ = _ := ((Only.refl (fun _ => False) wb).alloc _).cell d8 (fun s => s)
      have hE := own_empty wb 165 2
      go_wp2_with (at_builtin; refine wpList_appAll rfl (.tmp 22) (.tmp 28) 120 rfl 165 (.agg #[.int .u64 0, .int .u64 0]) 2 16 Try.underlying120 infoRW rfl (by decide) (by decide) _ 0 0 (Nat.le_refl _) [] hE rfl _ 0 _ [] rfl (rd_zero _ _ _) (by simp) (by simp) (by omega) ?_)
      intro sa cap w4 hown4 only4 fresh4
      have hB4 : Below wb.heap.size wb w4 := ((Below.refl wb.heap.size wb).alloc (Nat.le_refl _) _).trans (only4.below (by simp) (fun q hq e => by simp [Value.ownBlock] at e; omega))
      have hfr4 : ∀ q, Value.ownBlock (.slice sa 0 cap) = some q → w2.heap.size ≤ q := by
        intro q hq
        rcases fresh4 q hq with h5 | h5
        · first | omega | (simp [Value.ownBlock] at h5; omega)
        · first | omega | (simp at h5; omega)
      have hfx := hfi.out w4 sa cap hB2 hown2 (hB4.mono hsb3) hown4 hfr4
      have e8 := bcell2 hB4 d8
      have e9 := bcell2 hB4 d9
      have i8 : w4.frozen? ⟨lb, i * 10 + 8, none⟩ = false := by rw [hB4.frozen (p := ⟨lb, i * 10 + 8, none⟩) hlb4]; exact g8
      have i9 : w4.frozen? ⟨lb, i * 10 + 9, none⟩ = false := by rw [hB4.frozen (p := ⟨lb, i * 10 + 9, none⟩) hlb4]; exact g9
      replace hfx := Lib.hid hfx
      clear hB4 hfr4 hown4 only4 fresh4 hE hB2 hown2 hob hOb d8 d9 g8 g9
      go_wp2_with fail
      first | exact hfx.out | exact bodyPost_end (results_none rfl _ _ _) rfl hfx.out
end Go.Proofs.Ytikjpklbbjmioaa
