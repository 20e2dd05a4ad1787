/- The law's Same: the strings. -/
import Derived.Test.YtikjpklbbjmioaaF1
import Derived.Laws.IdiomStrings
import Derived.Deep.RegionWith
import Derived.Deep.DeepCutAuto
namespace Go.Proofs.Ytikjpklbbjmioaa
open Go.RowKit Go.Maps
variable {w : World} {F : Own} {o h T : Nat} {R : Dv}

def strOf (bs : List Nat) : ByteArray := ⟨(bs.map UInt8.ofNat).toArray⟩
theorem add_zero' (b j : Nat) : (⟨b, 0, none⟩ : Addr).add j = ⟨b, j, none⟩ := by
  unfold Addr.add
  split
  · simp_all
  · simp
theorem byte_at {bs : List Nat} {j : Nat} (hj : j < bs.length) (hx : bs.getD j 0 < 256) : some (Value.int .u8 ((bs.getD j 0 : Nat) : Int)) = some (Value.int .u8 ((((bs.map UInt8.ofNat)[j]'(by rw [List.length_map]; exact hj)).toNat : Nat) : Int)) := by
  have e : (bs.map UInt8.ofNat)[j]'(by rw [List.length_map]; exact hj) = UInt8.ofNat (bs.getD j 0) := by
    rw [List.getElem_map, List.getD_eq_getElem?_getD, List.getElem?_eq_getElem hj, Option.getD_some]
  rw [e, UInt8.toNat_ofNat_of_lt' (by simpa using hx)]
theorem conv_has {w : World} {b : Nat} {bs : List Nat} (hH : Has w b (u8s bs) 5) (hb : ∀ x ∈ bs, x < 256) (c : Nat) :
    (convert 31 9 (.slice (some ⟨b, 0, none⟩) bs.length c)).run Try.prog w = .ok (.string (strOf bs)) w := by
  have := run_convert_bytes_back (P := Try.prog) w 31 9 5 ⟨b, 0, none⟩ c (bs.map UInt8.ofNat) Try.underlying31 Try.underlying5 Try.underlying9 (fun j hj => by
    simp only [List.length_map] at hj
    have hat := get_of_lt 0 hj
    have hx := hb _ (List.mem_of_getElem? hat)
    have := hH.cell (o := j) (u8s_get bs j _ hat)
    rw [add_zero' b j, this]
    exact byte_at hj hx)
  rw [List.length_map] at this
  exact this
theorem bytesL_256 (ws : List Nat) : ∀ x ∈ bytesL ws, x < 256 := by
  intro x hx
  unfold bytesL at hx
  simp only [List.mem_map] at hx
  obtain ⟨i, _, rfl⟩ := hx
  exact Nat.mod_lt _ (by omega)
/-- A slice of bytes that turns into this string, in every world to come. -/
def Str (w : World) (v : Value) (s : ByteArray) : Prop := ∀ w', Below w.heap.size w w' → (convert 31 9 v).run Try.prog w' = .ok (.string s) w'
theorem Str.up {w w1 : World} {v : Value} {s : ByteArray} (h : Str w v s) (hb : Below w.heap.size w w1) : Str w1 v s := fun w' h' => h w' (hb.trans (h'.mono hb.size))
theorem Has.str {w : World} {b : Nat} {bs : List Nat} (hH : Has w b (u8s bs) 5) (hb : ∀ x ∈ bs, x < 256) (c : Nat) : Str w (.slice (some ⟨b, 0, none⟩) bs.length c) (strOf bs) :=
  fun _ hB => conv_has (hH.only (Only.of_below hB) (Nat.not_le.2 hH.lt)) hb c
theorem Grow.str {wq w : World} {a : Option Addr} {c : Nat} {bs : List Nat} (hG : Grow wq w 5 a bs.length c (u8s bs)) (hb : ∀ x ∈ bs, x < 256) (hn : 0 < bs.length) : Str w (.slice a bs.length c) (strOf bs) := by
  have hown := hG.own
  rcases hown.2 with ⟨h1, h2⟩ | ⟨g, cap, cur, h1, h2, h3, h4, h5, h6, h7⟩
  · omega
  · cases h1
    intro w' hB
    have hr := (Rd.of_own hown).kept hB
    obtain ⟨bl, ol, cl, ea, fa⟩ := hr.cells hn
    simp only [Value.slice.injEq, Option.some.injEq, Addr.mk.injEq, true_and, and_true] at ea
    obtain ⟨⟨rfl, rfl⟩, hc⟩ := ea
    have := run_convert_bytes_back (P := Try.prog) w' 31 9 5 ⟨g, 0, none⟩ c (bs.map UInt8.ofNat) Try.underlying31 Try.underlying5 Try.underlying9 (fun j hj => by
      simp only [List.length_map] at hj
      have hat := get_of_lt 0 hj
      have hx := hb _ (List.mem_of_getElem? hat)
      have := fa _ _ (u8s_get bs j _ hat)
      rw [Nat.zero_add] at this
      rw [add_zero' g j, this]
      exact byte_at hj hx)
    rw [List.length_map] at this
    exact this
end Go.Proofs.Ytikjpklbbjmioaa
