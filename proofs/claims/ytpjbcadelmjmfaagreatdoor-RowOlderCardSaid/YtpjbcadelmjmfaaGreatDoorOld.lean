/- Older rows, plain: a table with further columns is good; what an old row reads in it. No program in sight. -/
import Derived.Test.YtpjbcadelmjmfaaGreatDoorDec2
import Derived.Test.YtpjbcadelmjmfaaGreatDoorR49
namespace Go.Proofs.YtpjbcadelmjmfaaGreatDoor
open Go.Lib

def nmA (k : Nat) : ByteArray := ⟨#[UInt8.ofNat (65 + k)]⟩
theorem nmA_one (k : Nat) (hk : k < 8) : One (nmA k) (65 + k) := ⟨.inl ⟨by omega, by omega⟩, UInt8.ofNat (65 + k), by rw [UInt8.toNat_ofNat']; omega, rfl⟩
theorem byte_beq (i j : Nat) (hi : i < 256) (hj : j < 256) : (((⟨#[UInt8.ofNat i]⟩ : ByteArray)).toList == ((⟨#[UInt8.ofNat j]⟩ : ByteArray)).toList) = decide (i = j) := by
  rw [ByteArray.toList_eq, ByteArray.toList_eq, Bool.eq_iff_iff]
  simp only [beq_iff_eq, decide_eq_true_eq]
  constructor
  · intro h
    have h2 : UInt8.ofNat i = UInt8.ofNat j := by
      have : ([UInt8.ofNat i] : List UInt8) = [UInt8.ofNat j] := h
      simpa using this
    have h3 := congrArg UInt8.toNat h2
    rw [UInt8.toNat_ofNat', UInt8.toNat_ofNat'] at h3
    omega
  · rintro rfl; rfl
/-- The columns that are added: of a made table, under other names. -/
def mrOf (cs2 : List CV) (k : Nat) : List CV := (List.range k).map fun i => { cs2.getD i CV0 with nm := nmA i }
theorem mrOf_len (cs2 : List CV) (k : Nat) : (mrOf cs2 k).length = k := by simp [mrOf]
theorem mrOf_get (cs2 : List CV) (k i : Nat) (h : i < k) : (mrOf cs2 k).getD i CV0 = { cs2.getD i CV0 with nm := nmA i } := by
  unfold mrOf
  rw [List.getD, List.getElem?_map, List.getElem?_range h]; rfl
theorem getD_app_left {α : Type} (d : α) (a b : List α) (i : Nat) (h : i < a.length) : (a ++ b).getD i d = a.getD i d := by
  rw [List.getD, List.getD, List.getElem?_append_left h]
theorem getD_app_right {α : Type} (d : α) (a b : List α) (i : Nat) (h : a.length ≤ i) : (a ++ b).getD i d = b.getD (i - a.length) d := by
  rw [List.getD, List.getD, List.getElem?_append_right h]
theorem getD_map {α : Type} (f : α → α) (d : α) (a : List α) (i : Nat) (h : i < a.length) : (a.map f).getD i d = f (a.getD i d) := by
  rw [List.getD, List.getD, List.getElem?_map, List.getElem?_eq_getElem h]; rfl
section
variable {ver : Nat} {cs cs2 : List CV} {k : Nat}
theorem add_get_old (i : Nat) (h : i < cs.length) : (cs ++ (mrOf cs2 k).map (CV.bump ((ver + 1 : Nat) : Int))).getD i CV0 = cs.getD i CV0 := getD_app_left _ _ _ _ h
theorem add_get_new (i : Nat) (h1 : cs.length ≤ i) (h2 : i < cs.length + k) : (cs ++ (mrOf cs2 k).map (CV.bump ((ver + 1 : Nat) : Int))).getD i CV0 = { cs2.getD (i - cs.length) CV0 with nm := nmA (i - cs.length), sc := ((ver + 1 : Nat) : Int) } := by
  rw [getD_app_right _ _ _ _ h1, getD_map _ _ _ _ (by rw [mrOf_len]; omega), mrOf_get _ _ _ (by omega)]
  rfl
theorem add_len : (cs ++ (mrOf cs2 k).map (CV.bump ((ver + 1 : Nat) : Int))).length = cs.length + k := by rw [List.length_append, List.length_map, mrOf_len]
theorem TG.add {v2 : Nat} (hg : TG ver cs) (hg2 : TG v2 cs2) (hk : k ≤ cs2.length) (h8 : cs.length + k ≤ 8) (hv : ver < 1000) (hnm : ∀ i, i < cs.length → (cs.getD i CV0).nm = nmOf i) : TG (ver + 1) (cs ++ (mrOf cs2 k).map (CV.bump ((ver + 1 : Nat) : Int))) := by
  obtain ⟨p1, p2, p3⟩ := hg.parts
  have hname : ∀ i, i < cs.length + k → (cs ++ (mrOf cs2 k).map (CV.bump ((ver + 1 : Nat) : Int))).getD i CV0 = (cs ++ (mrOf cs2 k).map (CV.bump ((ver + 1 : Nat) : Int))).getD i CV0 ∧ ((cs ++ (mrOf cs2 k).map (CV.bump ((ver + 1 : Nat) : Int))).getD i CV0).nm = (⟨#[UInt8.ofNat (if i < cs.length then 97 + i else 65 + (i - cs.length))]⟩ : ByteArray) := by
    intro i hi
    refine ⟨rfl, ?_⟩
    by_cases h : i < cs.length
    · rw [add_get_old i h, hnm i h, if_pos h]; rfl
    · rw [add_get_new i (by omega) hi, if_neg h]; rfl
  refine ⟨⟨?_, ?_, ?_, ?_⟩, ?_, ?_, by omega⟩
  · rw [add_len]; exact h8
  · intro i hi
    rw [add_len] at hi
    by_cases h : i < cs.length
    · rw [add_get_old i h]; exact hg.ok.nm i h
    · rw [add_get_new i (by omega) hi]; exact ⟨_, nmA_one (i - cs.length) (by omega)⟩
  · intro i hi
    rw [add_len] at hi
    right
    refine ⟨i, by rw [add_len]; exact hi, rfl, ?_, ?_⟩
    · simp
    · intro j hj
      rw [(hname i hi).2, (hname j (by omega)).2, byte_beq _ _ (by split <;> omega) (by split <;> omega)]
      exact decide_eq_false (by split <;> split <;> omega)
  · intro i hi
    rw [add_len] at hi
    by_cases h : i < cs.length
    · rw [add_get_old i h]; exact hg.ok.fit i h
    · rw [add_get_new i (by omega) hi]; exact hg2.ok.fit (i - cs.length) (by omega)
  · rw [add_len]; have := hg.pos; omega
  · have hn0 := hg.pos
    have hs0 : (cs.getD 0 CV0).sc = 1 := by
      rcases hg.vok with ⟨h1, _⟩ | ⟨_, _, _, h1, _⟩
      · cases h1
      · exact h1
    right
    refine ⟨rfl, by omega, by omega, by rw [add_get_old 0 hn0]; exact hs0, ?_⟩
    intro j hj
    rw [add_len] at hj
    by_cases h : j < cs.length
    · rw [add_get_old j h]
      have h1 := p3 j h
      refine ⟨?_, by omega⟩
      unfold prevS at h1 ⊢
      split
      · rename_i h0
        rw [if_pos h0] at h1; exact h1.1
      · rename_i h0
        rw [if_neg h0] at h1
        rw [add_get_old (j - 1) (by omega)]; exact h1.1
    · rw [add_get_new j (by omega) hj]
      refine ⟨?_, Int.le_refl _⟩
      unfold prevS
      rw [if_neg (by omega)]
      by_cases h2 : j - 1 < cs.length
      · rw [add_get_old (j - 1) h2]
        have := (p3 (j - 1) h2).2
        show _ ≤ ((ver + 1 : Nat) : Int)
        omega
      · rw [add_get_new (j - 1) (by omega) (by omega)]
        exact Int.le_refl _
theorem bump_sc (c : CV) (hc : c ∈ (mrOf cs2 k).map (CV.bump ((ver + 1 : Nat) : Int))) : (ver : Int) < c.sc := by
  obtain ⟨d, _, rfl⟩ := List.mem_map.1 hc
  show (ver : Int) < ((ver + 1 : Nat) : Int)
  omega
theorem bump_df : ((mrOf cs2 k).map (CV.bump ((ver + 1 : Nat) : Int))).map CV.df = (mrOf cs2 k).map CV.df := by
  rw [List.map_map]; rfl
theorem fitsGo_app : ∀ (a b : List CV) (x y : List RV), a.length = x.length → fitsGo a x = 0 → fitsGo b y = 0 → fitsGo (a ++ b) (x ++ y) = 0
  | [], b, [], y, _, _, h => h
  | c :: a, b, v :: x, y, hl, h1, h2 => by
    have h1' := h1
    unfold fitsGo at h1'
    split at h1'
    · rename_i h; exact absurd h1' h
    · rename_i h
      rw [List.cons_append, List.cons_append]
      unfold fitsGo
      rw [if_neg h]
      exact fitsGo_app a b x y (by simpa using hl) h1' h2
  | [], _, _ :: _, _, h, _, _ => by simp at h
  | _ :: _, _, [], _, h, _, _ => by simp at h
theorem fitsGo_df : ∀ b : List CV, (∀ c ∈ b, fitsP c.ty c.nl c.df = 0) → fitsGo b (b.map CV.df) = 0
  | [], _ => rfl
  | c :: b, h => by
    rw [List.map_cons]
    unfold fitsGo
    rw [if_neg (by rw [h c (by simp)]; simp)]
    exact fitsGo_df b fun d hd => h d (by simp [hd])
/-- The old row with the defaults fits the new table. -/
theorem older_row (hg2 : TG (ver + 1) (cs ++ (mrOf cs2 k).map (CV.bump ((ver + 1 : Nat) : Int)))) (r : List RV) (hr : rowP cs r = 0) : rowP (cs ++ (mrOf cs2 k).map (CV.bump ((ver + 1 : Nat) : Int))) (r ++ (mrOf cs2 k).map CV.df) = 0 := by
  obtain ⟨hl, hf, _⟩ := rowP_ok hr
  unfold rowP
  rw [if_neg (by rw [add_len, List.length_append, List.length_map, mrOf_len, hl]; simp), ← bump_df (ver := ver)]
  refine fitsGo_app _ _ _ _ hl hf (fitsGo_df _ fun c hc => ?_)
  obtain ⟨i, hi, rfl⟩ := List.getElem_of_mem hc
  have h := (hg2.ok.fit (cs.length + i) (by rw [List.length_append]; omega)).1
  have e : (cs ++ (mrOf cs2 k).map (CV.bump ((ver + 1 : Nat) : Int))).getD (cs.length + i) CV0 = ((mrOf cs2 k).map (CV.bump ((ver + 1 : Nat) : Int)))[i] := by
    rw [getD_app_right _ _ _ _ (by omega), Nat.add_sub_cancel_left, List.getD, List.getElem?_eq_getElem hi]; rfl
  rw [e] at h
  exact h
theorem older_dec (hg : TG ver cs) (hg2 : TG (ver + 1) (cs ++ (mrOf cs2 k).map (CV.bump ((ver + 1 : Nat) : Int)))) (r : List RV) (hr : rowP cs r = 0) :
    decP (ver + 1) (cs ++ (mrOf cs2 k).map (CV.bump ((ver + 1 : Nat) : Int))) (encP ver r) = (r ++ (mrOf cs2 k).map CV.df, 0) := by
  have h := decP_enc hg2 hg.parts.1 (by omega) hg.le (fun c hc => bump_sc c hc) r hr
  rw [bump_df] at h
  exact h
/-- A younger encoding is refused. -/
theorem young_dec (hg : TG ver cs) (r : List RV) : decP ver cs (encP (ver + 1) r) = ([], 14) := by
  have h65 := hg.lt
  have hv : (encP (ver + 1) r).getD 0 0 + 256 * (encP (ver + 1) r).getD 1 0 = (ver + 1) % 65536 := by
    show (ver + 1) % 256 + 256 * ((ver + 1) / 256 % 256) = _
    omega
  have hl := enc_len3 (ver + 1) r
  unfold decP
  rw [if_neg (by omega), hv, if_pos (by omega)]
end
end Go.Proofs.YtpjbcadelmjmfaaGreatDoor
