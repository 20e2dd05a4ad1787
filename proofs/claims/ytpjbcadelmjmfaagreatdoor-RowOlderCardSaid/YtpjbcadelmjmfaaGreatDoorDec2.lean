/- Decoding, plain: tables whose columns are good; what was encoded is decoded as it was. No program in sight. -/
import Derived.Test.YtpjbcadelmjmfaaGreatDoorR16
import Derived.Test.YtpjbcadelmjmfaaGreatDoorDec
namespace Go.Proofs.YtpjbcadelmjmfaaGreatDoor
open Go.Lib

theorem asc_of (V : Int) : ∀ cs : List CV, (∀ i j, i ≤ j → j < cs.length → (cs.getD i CV0).sc ≤ (cs.getD j CV0).sc) → Asc V cs
  | [], _ => trivial
  | c :: cs, h => by
    refine ⟨fun hv d hd => ?_, asc_of V cs fun i j hij hj => ?_⟩
    · obtain ⟨k, hk, rfl⟩ := List.getElem_of_mem hd
      have := h 0 (k + 1) (by omega) (by simpa using hk)
      simp only [List.getD_cons_zero, List.getD_cons_succ] at this
      rw [List.getD, List.getElem?_eq_getElem hk] at this
      simp only [Option.getD_some] at this
      omega
    · have := h (i + 1) (j + 1) (by omega) (by simpa using hj)
      simpa using this
theorem mono_of {cs : List CV} (h : ∀ j, j < cs.length → prevS cs j ≤ (cs.getD j CV0).sc) : ∀ i d, i + d < cs.length → (cs.getD i CV0).sc ≤ (cs.getD (i + d) CV0).sc
  | i, 0, _ => Int.le_refl _
  | i, d + 1, hd => by
    have h1 := mono_of h i d (by omega)
    have h2 := h (i + d + 1) (by omega)
    unfold prevS at h2
    rw [if_neg (by omega), Nat.add_sub_cancel] at h2
    have e : i + (d + 1) = i + d + 1 := by omega
    rw [e]
    omega
section
variable {ver : Nat} {cs : List CV}
theorem TG.parts (h : TG ver cs) : 1 ≤ ver ∧ ver ≤ 65535 ∧ ∀ j, j < cs.length → prevS cs j ≤ (cs.getD j CV0).sc ∧ (cs.getD j CV0).sc ≤ (ver : Int) := by
  rcases h.vok with ⟨h1, _⟩ | ⟨_, h1, h2, _, h3⟩
  · cases h1
  · exact ⟨by omega, by omega, h3⟩
theorem TG.asc (h : TG ver cs) (V : Int) : Asc V cs := by
  obtain ⟨_, _, h3⟩ := h.parts
  refine asc_of V cs fun i j hij hj => ?_
  have := mono_of (fun j hj => (h3 j hj).1) i (j - i) (by omega)
  rw [show i + (j - i) = j by omega] at this
  exact this
theorem TG.types (h : TG ver cs) : ∀ c ∈ cs, 1 ≤ c.ty ∧ c.ty ≤ 3 := by
  intro c hc
  obtain ⟨k, hk, rfl⟩ := List.getElem_of_mem hc
  have h1 := (h.ok.fit k hk).1
  have e : cs.getD k CV0 = cs[k] := by rw [List.getD, List.getElem?_eq_getElem hk]; rfl
  rw [e] at h1
  unfold fitsP at h1
  split at h1
  · cases h1
  · rename_i h2
    obtain ⟨⟨a, b⟩, _⟩ := form_parts h1
    have h3 : cs[k].df.ty = cs[k].ty := by
      by_cases e : cs[k].df.ty = cs[k].ty
      · exact e
      · exact absurd (.inl e) h2
    omega
theorem TG.le (h : TG ver cs) : ∀ c ∈ cs, ¬ (ver : Int) < c.sc := by
  intro c hc
  obtain ⟨k, hk, rfl⟩ := List.getElem_of_mem hc
  have h1 := (h.parts.2.2 k hk).2
  have e : cs.getD k CV0 = cs[k] := by rw [List.getD, List.getElem?_eq_getElem hk]; rfl
  rw [e] at h1
  omega
theorem decP_ref (h : TG ver cs) (p : List Nat) (hp : ∀ x ∈ p, x < 256) (V : Int) : progOk V cs (p.getD 2 0) (p.drop 3) = refOk V cs (p.getD 2 0) (p.drop 3) :=
  prog_ref V cs _ _ h.types (h.asc V) (fun x hx => hp x (List.mem_of_mem_drop hx))
/-- A row of the first columns is decoded with the defaults of the later ones. -/
theorem decP_enc {v0 : Nat} {cs0 more : List CV} (hg : TG ver (cs0 ++ more)) (h0 : 1 ≤ v0) (hv : v0 ≤ ver) (hc : ∀ c ∈ cs0, ¬ (v0 : Int) < c.sc) (hm : ∀ c ∈ more, (v0 : Int) < c.sc) (r : List RV) (hr : rowP cs0 r = 0) :
    decP ver (cs0 ++ more) (encP v0 r) = (r ++ more.map CV.df, 0) := by
  obtain ⟨hl, hf, hfo⟩ := rowP_ok hr
  have h8 : r.length ≤ 8 := by have := hg.ok.len; rw [List.length_append] at this; omega
  have h256 := encP_256 v0 r h8
  obtain ⟨_, h65, _⟩ := hg.parts
  have hV : (encP v0 r).getD 0 0 + 256 * (encP v0 r).getD 1 0 = v0 := by
    show v0 % 256 + 256 * (v0 / 256 % 256) = v0
    omega
  have hlen : ¬ (encP v0 r).length < 3 := by have := enc_len3 v0 r; omega
  have e1 : progOk (v0 : Int) (cs0 ++ more) (nulls r) (encR r) = some (r ++ more.map CV.df) := by
    have := decP_ref hg (encP v0 r) h256 (v0 : Int)
    have e : progOk (v0 : Int) (cs0 ++ more) ((encP v0 r).getD 2 0) ((encP v0 r).drop 3) = progOk (v0 : Int) (cs0 ++ more) (nulls r) (encR r) := rfl
    rw [← e, this]
    exact refOk_enc (v0 : Int) cs0 more r hm hl hf hc
  unfold decP
  rw [if_neg hlen, hV, if_neg (by omega)]
  have e : progOk (v0 : Int) (cs0 ++ more) ((encP v0 r).getD 2 0) ((encP v0 r).drop 3) = some (r ++ more.map CV.df) := e1
  rw [e]
theorem decP_back (hg : TG ver cs) (r : List RV) (hr : rowP cs r = 0) : decP ver cs (encP ver r) = (r, 0) := by
  have := @decP_enc ver ver cs [] (by rw [List.append_nil]; exact hg) hg.parts.1 (Nat.le_refl _) hg.le (by simp) r hr
  rw [List.append_nil] at this
  simpa using this
end
theorem RowB.cap {w wr : World} {T : TypeId} {size n : Nat} {xs : List Value} {sa : Option Addr} {sc : Nat} (h : RowB w T size n xs sa sc wr) : n ≤ sc := by
  obtain ⟨_, h2⟩ := h.o
  rcases h2 with ⟨h2, rfl⟩ | ⟨g, cap, cur, hv, _, _, hnc, _⟩
  · omega
  · simp only [Value.slice.injEq, true_and] at hv
    obtain ⟨_, rfl⟩ := hv
    exact hnc
end Go.Proofs.YtpjbcadelmjmfaaGreatDoor
