/- SchedStores: one step of a run over the two writers, as a whole state. -/
import Derived.Test.YtdminbjenbbpaaaU2
namespace Go.Proofs.Ytdminbjenbbpaaa
open Go.RowKit

structure Acc where
  nx : Nat → Nat
  want : Nat
  n : Nat
def acc0 : Acc := ⟨fun _ => 0, 0, 0⟩
def accStep (ls : Nat → List Nat) (g : Acc) (i : Nat) : Acc :=
  if g.nx i < (ls i).length then ⟨fun j => if j = i then g.nx i + 1 else g.nx j, (ls i).getD (g.nx i) 0, g.n + 1⟩ else g
def accAll (ls : Nat → List Nat) (st : List Nat) : Acc := st.foldl (accStep ls) acc0
theorem accAll_snoc (ls : Nat → List Nat) (st : List Nat) (i : Nat) : accAll ls (st ++ [i]) = accStep ls (accAll ls st) i := by simp [accAll]
theorem accStep_le (ls : Nat → List Nat) (g : Acc) (i : Nat) (h : ∀ j, g.nx j ≤ (ls j).length) : ∀ j, (accStep ls g i).nx j ≤ (ls j).length := by
  intro j
  unfold accStep
  split
  · rename_i hlt
    simp only
    split
    · rename_i e; subst e; omega
    · exact h j
  · exact h j
theorem fold_le (ls : Nat → List Nat) : ∀ (st : List Nat) (g : Acc), (∀ j, g.nx j ≤ (ls j).length) → ∀ j, (st.foldl (accStep ls) g).nx j ≤ (ls j).length := by
  intro st
  induction st with
  | nil => intro g h; exact h
  | cons i st ih => intro g h; exact ih _ (accStep_le ls g i h)
theorem accAll_le (ls : Nat → List Nat) (st : List Nat) (j : Nat) : (accAll ls st).nx j ≤ (ls j).length := fold_le ls st acc0 (fun _ => Nat.zero_le _) j

def natsI (st : List Nat) : List Int := st.map fun (k : Nat) => (k : Int)
theorem natsI_len (st : List Nat) : (natsI st).length = st.length := by simp [natsI]
theorem natsI_snoc (st : List Nat) (i : Nat) : natsI (st ++ [i]) = natsI st ++ [(i : Int)] := by simp [natsI]
/-- How many have not ended. -/
def liv (ended : List Int) : Int := ((ended.filter fun e => decide (e < 0)).length : Nat)
theorem liv_set : ∀ (ended : List Int) (i : Nat) (q : Int), i < ended.length → ended.getD i 0 < 0 → 0 ≤ q → liv (ended.set i q) = liv ended - 1 ∧ 0 < liv ended := by
  intro ended
  induction ended with
  | nil => intro i q h; simp at h
  | cons e es ih =>
    intro i q hi he hq
    cases i with
    | zero =>
      have he : e < 0 := by simpa using he
      simp only [liv, List.set_cons_zero, List.filter_cons, decide_eq_true he, if_true, decide_eq_false (show ¬ q < 0 by omega), List.length_cons]
      constructor
      · simp
      · omega
    | succ i =>
      obtain ⟨h1, h2⟩ := ih i q (by simpa using hi) (by simpa using he) hq
      simp only [liv, List.set_cons_succ, List.filter_cons] at h1 h2 ⊢
      by_cases h : e < 0
      · simp only [decide_eq_true h, if_true, List.length_cons]; omega
      · simp only [decide_eq_false h, Bool.false_eq_true, if_false]; omega
theorem liv_le (ended : List Int) : 0 ≤ liv ended ∧ liv ended ≤ ended.length := by
  unfold liv
  have := List.length_filter_le (fun e => decide (e < 0)) ended
  omega

theorem Rd.empty {w w' : World} {v : Value} {n : Nat} {cells : List Value} (h : Rd w v n cells) (h0 : n = 0) (hc : cells = []) : Rd w' v n cells := by
  obtain ⟨a, cap, rfl, _⟩ := h
  exact ⟨a, cap, rfl, .inl ⟨h0, hc⟩⟩
structure WM (B : Nat) (w : World) (F : Own) (L : Lay) (br be : Nat) (msa : Option Addr) (cap : Nat) (sa : Option Addr) (sc : Nat) (ms : List Nat) (vs : Nat → Value) (ls : Nat → List Nat) (st : List Nat) (ended : List Int) (left : Int) : Prop where
  run : RunSt w br be (.slice msa 2 cap) sa sc (natsI st) ended left
  st2 : ∀ k ∈ st, k < 2
  dev : ∃ R, DevSt w F 0 L (2 * st.length) R ∧ DOk R (accAll ls st).want (accAll ls st).n
  wr : ∀ i b, ms[i]? = some b → Has w b (wst (L.tb i) (vs i) ((accAll ls st).nx i)) 60
  rdv : ∀ i, i < 2 → Rd w (vs i) (ls i).length (u64s (ls i))
  vsB : ∀ i k, 0 < (ls i).length → (vs i).ownBlock = some k → k < B
  rd : Rd w (.slice msa 2 cap) 2 (ms.map wval)
  lenE : ended.length = 2
  left : left = liv ended
  free : Free F B
  bbr : B ≤ br ∧ F br = none
  bbe : B ≤ be ∧ F be = none
  bso : ∀ k, Value.ownBlock (.slice sa st.length sc) = some k → B ≤ k ∧ F k = none
  bm : ∀ b, b ∈ ms → B ≤ b ∧ F b = none ∧ b ≠ br ∧ b ≠ be ∧ Value.ownBlock (.slice sa st.length sc) ≠ some b
  inj : ∀ (i j b : Nat), ms[i]? = some b → ms[j]? = some b → i = j
  msep : ∀ k, Value.ownBlock (.slice msa 2 cap) = some k → F k = none ∧ k ≠ br ∧ k ≠ be ∧ Value.ownBlock (.slice sa st.length sc) ≠ some k ∧ k ∉ ms
/-- The blocks that a run may write. -/
def wfoot (F : Own) (br be : Nat) (own : Option Nat) (ms : List Nat) : Nat → Prop := fun k => Mine F 0 k ∨ k = br ∨ k = be ∨ own = some k ∨ k ∈ ms
def WLeft (B : Nat) (w : World) (F : Own) (L : Lay) (br be : Nat) (msa : Option Addr) (cap : Nat) (sa : Option Addr) (sc : Nat) (ms : List Nat) (vs : Nat → Value) (ls : Nat → List Nat) (st : List Nat) (w' : World) : Prop :=
  ∃ F' sa' sc' st' ended' left', WM B w' F' L br be msa cap sa' sc' ms vs ls st' ended' left' ∧ Ext w F F' ∧ Only (wfoot F br be (Value.ownBlock (.slice sa st.length sc)) ms) w w' ∧ st'.length ≤ st.length + 1 ∧
    (∀ k, Value.ownBlock (.slice sa' st'.length sc') = some k → Value.ownBlock (.slice sa st.length sc) = some k ∨ w.heap.size ≤ k)

theorem step_wm (B : Nat) (w : World) (F : Own) (L : Lay) (br be : Nat) (msa cap sa sc) (ms : List Nat) (vs ls) (st : List Nat) (ended : List Int) (left : Int) (h : WM B w F L br be msa cap sa sc ms vs ls st ended left) (i : Nat) (hi : i < 2) (hsl : st.length ≤ 1000)
    (hm2 : ms.length = 2) (hvs : ∀ i, ∃ a c, vs i = .slice a (ls i).length c) (hls : ∀ i, (ls i).length ≤ 30 ∧ ∀ x ∈ ls i, x < 18446744073709551616) :
    Calls Try.prog 34 #[.pointer (some ⟨br, 0, none⟩), .int .i64 i] w fun e w' => e = .returned (.tuple #[]) ∧ WLeft B w F L br be msa cap sa sc ms vs ls st w' := by
  have hrd := h.rd
  have hBw : B ≤ w.heap.size := Nat.le_of_lt (Nat.lt_of_le_of_lt h.bbr.1 h.run.run.lt)
  obtain ⟨bm, off, cap', hv, hcells⟩ := hrd.cells (by omega)
  simp only [Value.slice.injEq, true_and] at hv
  obtain ⟨rfl, rfl⟩ := hv
  have hx : ms[i]? = some (ms[i]'(by omega)) := List.getElem?_eq_getElem (by omega)
  generalize ms[i]'(by omega) = b at hx
  have hc := hcells i _ (wvals_get ms i b hx)
  have hlE : i < ended.length := by rw [h.lenE]; exact hi
  by_cases he : ended.getD i 0 < 0
  · obtain ⟨R, hD, hDO⟩ := h.dev
    have hb := List.mem_of_getElem? hx
    obtain ⟨b1, b2, b3, b4, b5⟩ := h.bm b hb
    obtain ⟨va, vc, hve⟩ := hvs i
    have hst2 := h.rdv i hi
    have hW := h.wr i b hx
    have hnx := accAll_le ls st i
    rw [hve] at hst2 hW
    have hws := wstep_any hD hDO (by omega) (show i < 8 by omega) b _ va vc (ls i) hW b2 hst2 (hls i).1 (hls i).2 hnx
    obtain ⟨hal, hal0⟩ := liv_set ended i st.length hlE he (by omega)
    have hal1 := (liv_le ended).2
    have hlen := h.lenE
    have hleft := h.left
    have hbsz : b < w.heap.size := hW.lt
    have hbrsz := h.run.run.lt
    have hbesz := h.run.ended.lt
    have hbmsz : bm < w.heap.size := by
      have := World.block_lt_of_cell? _ _ hc; simpa using this
    have hms : ∀ b', b' ∈ ms → b' < w.heap.size := fun b' hb' => by
      obtain ⟨j, hj⟩ := List.mem_iff_getElem?.1 hb'
      exact (h.wr j b' hj).lt
    have hown : ∀ k, Value.ownBlock (.slice sa st.length sc) = some k → k < w.heap.size := fun k hk => by
      have := h.run.own
      rw [natsI_len] at this
      exact ownsRow_lt this hk
    have hrun := h.run
    have hcall : Hid (Calls Try.prog 75 #[.pointer (some ⟨b, 0, none⟩)] w (fun e w1 => e = .returned (.bool (decide ((ls i).length ≤ (accAll ls st).nx i + 1))) ∧
        (∃ F1 R1, DevSt w1 F1 0 L (2 * st.length + 2) R1 ∧ DOk R1 (accAll ls (st ++ [i])).want (accAll ls (st ++ [i])).n ∧ Has w1 b (wst (L.tb i) (vs i) ((accAll ls (st ++ [i])).nx i)) 60 ∧ Ext w F F1) ∧ Only (fun k => Mine F 0 k ∨ k = b) w w1)) := by
      refine hws.mono ?_
      rintro e w1 ⟨F1, R1, rfl, q1, q2, q3, q4, q5⟩
      refine ⟨rfl, ⟨F1, R1, q1, ?_, ?_, q4⟩, q5⟩
      · rw [accAll_snoc]; unfold accStep
        split <;> rename_i hlt
        · rw [if_pos hlt, if_pos hlt] at q2; exact q2
        · rw [if_neg hlt, if_neg hlt] at q2; exact q2
      · rw [accAll_snoc, hve]; unfold accStep
        split <;> rename_i hlt
        · rw [if_pos hlt] at q3; simpa using q3
        · rw [if_neg hlt] at q3; exact q3
    have hMine : ∀ k, F k = none → ¬ Mine F 0 k := fun k hk ⟨r, s⟩ => by rw [hk] at s; cases s
    refine (wrun_go br be bm off sa sc (natsI st) ended left w i 2 cap hi (by omega) hlE hrun ⟨b, 0, none⟩ hc he _ _ (fun k => Mine F 0 k ∨ k = b) ?_ ?_ ?_ hcall (by rw [hleft]; omega) (by rw [natsI_len]; omega)).mono ?_
    · rintro (s | s)
      · exact hMine _ h.bbr.2 s
      · exact b3 s.symm
    · rintro (s | s)
      · exact hMine _ h.bbe.2 s
      · exact b4 s.symm
    · intro k hk s
      rw [natsI_len] at hk
      rcases s with s | s
      · exact hMine _ (h.bso k hk).2 s
      · exact b5 (s ▸ hk)
    rintro e w' ⟨rfl, w1, sa', sc', ⟨F1, R1, q1, q2, q3, q4⟩, hO1, hO2, hR, hfr⟩
    rw [natsI_len] at hO2 hfr hR
    have hF1 : ∀ k, k < w.heap.size → F1.trim w1 k = F k := fun k hk => ((F1.trim_ext w1) k (by have := hO1.size; omega)).trans (q4 k hk)
    have hFn : ∀ k, w1.heap.size ≤ k → F1.trim w1 k = none := fun k hk => F1.trim_new w1 hk
    have hE : Ext w F (F1.trim w1) := hF1
    have hO2f : ∀ k, (k = br ∨ k = be ∨ Value.ownBlock (.slice sa st.length sc) = some k) → F1.trim w1 k = none := by
      rintro k (rfl | rfl | hk)
      · rw [hF1 _ hbrsz]; exact h.bbr.2
      · rw [hF1 _ hbesz]; exact h.bbe.2
      · rw [hF1 _ (hown k hk)]; exact (h.bso k hk).2
    have hOw : ∀ k, Value.ownBlock (.slice sa' (st.length + 1) sc') = some k → ∀ k', k' < w.heap.size → Value.ownBlock (.slice sa st.length sc) ≠ some k' → k ≠ k' := by
      intro k hk k' hk' hne e
      subst e
      rcases hfr k hk with h1 | h1
      · exact hne h1
      · have := hO1.size; omega
    have hst1 : (st ++ [i]).length = st.length + 1 := by simp
    refine ⟨rfl, F1.trim w1, sa', sc', st ++ [i], if decide ((ls i).length ≤ (accAll ls st).nx i + 1) = true then ended.set i st.length else ended, if decide ((ls i).length ≤ (accAll ls st).nx i + 1) = true then left - 1 else left, ?_, hE, ?_, by omega, ?_⟩
    · refine ⟨?_, ?_, ?_, ?_, ?_, h.vsB, ?_, ?_, ?_, ?_, ?_, ?_, ?_, ?_, h.inj, ?_⟩
      · rw [natsI_snoc]; exact hR
      · intro k hk
        rcases List.mem_append.1 hk with hk | hk
        · exact h.st2 k hk
        · simp only [List.mem_singleton] at hk; omega
      · refine ⟨R1, ?_, q2⟩
        rw [hst1, show 2 * (st.length + 1) = 2 * st.length + 2 by omega]
        exact q1.trim.kept hO2 (Ext.refl _ _) (fun k r hk s => by rw [hO2f k hk] at s; cases s)
      · intro j b' hj
        have hb' := List.mem_of_getElem? hj
        obtain ⟨c1, c2, c3, c4, c5⟩ := h.bm b' hb'
        have nO2 : ¬ (b' = br ∨ b' = be ∨ Value.ownBlock (.slice sa st.length sc) = some b') := by
          rintro (s | s | s)
          · exact c3 s
          · exact c4 s
          · exact c5 s
        by_cases hji : j = i
        · subst hji
          rw [hx] at hj; cases hj
          exact q3.only hO2 nO2
        · have hbb : b' ≠ b := fun e => hji (h.inj j i b (e ▸ hj) hx)
          have hsame : (accAll ls (st ++ [i])).nx j = (accAll ls st).nx j := by
            rw [accAll_snoc]; unfold accStep; split
            · simp only; rw [if_neg hji]
            · rfl
          rw [hsame]
          refine ((h.wr j b' hj).only hO1 ?_).only hO2 nO2
          rintro (s | s)
          · exact hMine _ c2 s
          · exact hbb s
      · intro j hj
        by_cases h0 : 0 < (ls j).length
        case neg =>
          have h00 : ls j = [] := List.length_eq_zero_iff.1 (by omega)
          exact (h.rdv j hj).empty (by rw [h00]; rfl) (by rw [h00]; rfl)
        refine ((h.rdv j hj).only hO1 (fun k hk s => ?_)).only hO2 (fun k hk s => ?_)
        · have hkB := h.vsB j k h0 hk
          rcases s with s | s
          · exact hMine _ (h.free k hkB) s
          · omega
        · have hkB := h.vsB j k h0 hk
          rcases s with s | s | s
          · have := h.bbr.1; omega
          · have := h.bbe.1; omega
          · have := (h.bso k s).1; omega
      · refine (hrd.only hO1 (fun k hk s => ?_)).only hO2 (fun k hk s => ?_)
        · obtain ⟨t0, t1, t2, t3, t4⟩ := h.msep k hk
          rcases s with s | s
          · exact hMine _ t0 s
          · subst s; exact t4 hb
        · obtain ⟨t0, t1, t2, t3, t4⟩ := h.msep k hk
          rcases s with s | s | s
          · exact t1 s
          · exact t2 s
          · exact t3 s
      · split
        · rw [List.length_set]; exact hlen
        · exact hlen
      · split
        · rw [hal, hleft]
        · exact hleft
      · intro k hk; rw [hF1 k (by omega)]; exact h.free k hk
      · exact ⟨h.bbr.1, by rw [hF1 _ hbrsz]; exact h.bbr.2⟩
      · exact ⟨h.bbe.1, by rw [hF1 _ hbesz]; exact h.bbe.2⟩
      · intro k hk
        rw [hst1] at hk
        rcases hfr k hk with h1 | h1
        · exact ⟨(h.bso k h1).1, hO2f k (.inr (.inr h1))⟩
        · exact ⟨by have := hO1.size; omega, hFn k h1⟩
      · intro b' hb'
        obtain ⟨c1, c2, c3, c4, c5⟩ := h.bm b' hb'
        refine ⟨c1, by rw [hF1 _ (hms b' hb')]; exact c2, c3, c4, fun hk => ?_⟩
        rw [hst1] at hk
        exact hOw b' hk b' (hms b' hb') c5 rfl
      · intro k hk
        obtain ⟨t0, t1, t2, t3, t4⟩ := h.msep k hk
        have : k = bm := by simpa [Value.ownBlock] using hk.symm
        subst this
        refine ⟨by rw [hF1 _ hbmsz]; exact t0, t1, t2, fun hk' => ?_, t4⟩
        rw [hst1] at hk'
        exact hOw k hk' k hbmsz t3 rfl
    · refine (hO1.mono (fun k _ s => ?_)).trans (hO2.mono (fun k _ s => ?_))
      · rcases s with s | s
        · exact .inl s
        · subst s; exact .inr (.inr (.inr (.inr hb)))
      · rcases s with s | s | s
        · exact .inr (.inl s)
        · exact .inr (.inr (.inl s))
        · exact .inr (.inr (.inr (.inl s)))
    · intro k hk
      rw [hst1] at hk
      rcases hfr k hk with h1 | h1
      · exact .inl h1
      · exact .inr (Nat.le_trans hO1.size h1)
  · refine (runstep_done br be bm off sa sc (natsI st) ended left w i 2 cap hi (by omega) hlE h.run 58 _ hc (by omega)).mono ?_
    rintro e w' ⟨rfl, rfl⟩
    exact ⟨rfl, F, sa, sc, st, ended, left, h, Ext.refl _ _, Only.refl _ _, by omega, fun k hk => .inl hk⟩
end Go.Proofs.Ytdminbjenbbpaaa
